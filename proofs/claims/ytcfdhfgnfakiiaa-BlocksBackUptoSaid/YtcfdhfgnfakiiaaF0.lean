/- Lines that the kit's print wrote for this seat's functions, laid together (asm.py). -/
import Derived.Test.YtcfdhfgnfakiiaaProg
import Derived.Below
import Derived.Deep.Draws
import Derived.Deep.AppendLies
import Derived.Maps.AppendAt
import Derived.OwnWalk
import Derived.Laws.BytesArg
import Derived.Laws.MakeOwn
import Derived.Laws.OwnMore
import Derived.Deep.OwnRows
import Derived.Tactics
import Derived.Lib.ConvBytes
import Derived.Laws.Slices
import Derived.WalkKit
import Derived.KernelRfl
import Derived.RowKit3
import Derived.Deep.LoopGhost
import Derived.Deep.QuietTactic
import Derived.BigQuiet
import Derived.WideLaws
import Derived.Deep.DeepCutAuto
import Derived.Deep.CutBlock
import Derived.Deep.RegionHeld3
import Derived.Laws.Rows
import Derived.Lib.AppendStr
import Derived.ArgAppend
import Derived.Laws.IdiomCopy
import Derived.OrdersHeld
import Derived.Laws.BitsLemmas
import Derived.RowKit
import Derived.Test.YtcfdhfgnfakiiaaWWords
import Derived.Test.YtcfdhfgnfakiiaaWLast
import Derived.Test.YtcfdhfgnfakiiaaWTab
import Derived.Test.YtcfdhfgnfakiiaaWFour
import Derived.Test.YtcfdhfgnfakiiaaWQPut
import Derived.Test.YtcfdhfgnfakiiaaWApart
import Derived.Test.YtcfdhfgnfakiiaaWArr
import Derived.Test.YtcfdhfgnfakiiaaWZeros
import Derived.Test.YtcfdhfgnfakiiaaWFoot
import Derived.Test.YtcfdhfgnfakiiaaWKept
import Derived.Test.YtcfdhfgnfakiiaaWShare
import Derived.Test.YtcfdhfgnfakiiaaWN
import Derived.Test.YtcfdhfgnfakiiaaWFootNe
import Derived.Test.YtcfdhfgnfakiiaaWAt
import Derived.Test.YtcfdhfgnfakiiaaWEqStruct
import Derived.Test.YtcfdhfgnfakiiaaWRepsOne
import Derived.Test.YtcfdhfgnfakiiaaWInv
import Derived.Test.YtcfdhfgnfakiiaaWInvWords
import Derived.Test.YtcfdhfgnfakiiaaWGuard
import Derived.Test.YtcfdhfgnfakiiaaWNEv
import Derived.Test.YtcfdhfgnfakiiaaWMore
import Derived.Test.YtcfdhfgnfakiiaaV3
namespace Go.Proofs.Ytcfdhfgnfakiiaa.Lib
open Go.RowKit Go.Proofs.YtcfdhfgnfakiiaaW.PrintWords Go.Proofs.YtcfdhfgnfakiiaaW.PrintLast Go.Proofs.YtcfdhfgnfakiiaaW.PrintMore
attribute [local go_sem] max2_int min2_int max_two min_two max_three min_three max_four min_four
set_option linter.unusedVariables false
set_option linter.unusedSimpArgs false



def errW : Option Int → Value
  | none => .nilIface
  | some c => .iface 0 (.int .i64 c)
theorem errW_none : errW none = .nilIface := rfl
theorem errW_some (c : Int) : errW (some c) = .iface 0 (.int .i64 c) := rfl

theorem info5 : (Try.prog.info? 5).map (fun i => (i.zero, i.size, i.bytes)) = some (some (.int .u8 0), 1, 1) := by kernel_rfl
-- the values' own types


/-! ### halftoneref01_Same -/
def halftoneref01_Same.f (l0 : List Int) (l1 : List Int) : Option (Bool) := some ((strOfNums l0).toList == (strOfNums l1).toList)
set_option maxHeartbeats 8000000 in
set_option maxRecDepth 100000 in
theorem halftoneref01_Same.calls (A0 : Option Addr) (c0 : Nat) (l0 : List Int) (A1 : Option Addr) (c1 : Nat) (l1 : List Int) (r : Bool) (w : World) (hr0 : Kd.C (Kd.int .u8) w A0 l0.length l0) (hc0 : l0.length ≤ c0) (hr1 : Kd.C (Kd.int .u8) w A1 l1.length l1) (hc1 : l1.length ≤ c1) (h : halftoneref01_Same.f l0 l1 = some r) :
    Calls Try.prog 10 #[.slice A0 l0.length c0, .slice A1 l1.length c1] w fun e w' => e = .returned (.bool r) ∧ Drawn0 w w' := by
  have HR0 := Aside0.mk hr0
  have HC0 := Aside0.mk hc0
  clear hr0 hc0
  have HR1 := Aside0.mk hr1
  have HC1 := Aside0.mk hc1
  clear hr1 hc1
  have H : (some ((strOfNums l0).toList == (strOfNums l1).toList)) = some r := h
  clear h
  obtain rfl := Option.some.inj H
  have hcv3 := Kd.C_string (P := Try.prog) (A := A0) (c := c0) Try.underlying22 Try.underlying5 Try.underlying9 HR0.out
  have hcv4 := Kd.C_string (P := Try.prog) (A := A1) (c := c1) Try.underlying22 Try.underlying5 Try.underlying9 HR1.out
  go_enter Try.func10, Try.ntmps10
  go_wp2
  go_ret
  exact ⟨by first | rfl | (simp; done) | (simp [*]; done), by repeat (first | exact Drawn0.refl _ | apply Drawn0.step)⟩

/-- A state of type 45 at block g of W; what its slices lead to came in by w0. -/
def IsS45 (w0 W : World) (g : Nat) (f0 : Int) (f1 : Int) (f2 : Bool) (f3 : List Int) : Prop := ∃ A3 c3, W.heap[g]? = some (.cells #[.int .i64 f0, .int .i64 f1, .bool f2, .slice A3 f3.length c3] 45 (0, 0)) ∧ w0.heap.size ≤ g ∧ Kd.C (Kd.int .u8) w0 A3 f3.length f3
theorem IsS45.grown {w0 W : World} {g : Nat} {f0 : Int} {f1 : Int} {f2 : Bool} {f3 : List Int} {W1 : World} {row : Option Nat} (h : IsS45 w0 W g f0 f1 f2 f3) (hw : W.grownBy W1 row) (hne : some g ≠ row) : IsS45 w0 W1 g f0 f1 f2 f3 := by
  obtain ⟨A3, c3, hb, hg, hr3⟩ := h
  exact ⟨A3, c3, blk_grown hb hw hne, hg, hr3⟩
theorem IsS45.own_neN {w0 W : World} {g : Nat} {f0 : Int} {f1 : Int} {f2 : Bool} {f3 : List Int} {α : Type} {d : Kd α} {e : Nat} {base : Nat} {ok : Nat → Prop} {v : Value} {xs : List α} (h : IsS45 w0 W g f0 f1 f2 f3) (ho : Kd.N d e W base ok v xs) (ht : e ≠ 45) : some g ≠ v.ownBlock := by
  obtain ⟨A3, c3, hb, hg, hr3⟩ := h
  exact Kd.N_ne ho hb ht
theorem IsS45.fresh {w0 W : World} {g : Nat} {f0 : Int} {f1 : Int} {f2 : Bool} {f3 : List Int} (h : IsS45 w0 W g f0 f1 f2 f3) : ∀ k, W.heap.size ≤ k → k ≠ g := by
  obtain ⟨A3, c3, hb, hg, hr3⟩ := h
  exact Kd.freshB hb
theorem IsS45.kept {w0 W : World} {g : Nat} {f0 : Int} {f1 : Int} {f2 : Bool} {f3 : List Int} {W1 : World} {S : Nat → Prop} (h : IsS45 w0 W g f0 f1 f2 f3) (hk : Kept W W1 S) (hne : ¬ S g) : IsS45 w0 W1 g f0 f1 f2 f3 := by
  obtain ⟨A3, c3, hb, hg, hr3⟩ := h
  exact ⟨A3, c3, blk_kept hb hk hne, hg, hr3⟩
theorem IsS45.below {w0 W : World} {g : Nat} {f0 : Int} {f1 : Int} {f2 : Bool} {f3 : List Int} {W1 : World} (h : IsS45 w0 W g f0 f1 f2 f3) (hw : Below W.heap.size W W1) : IsS45 w0 W1 g f0 f1 f2 f3 := h.grown (grown_of_below hw none) (by simp)
theorem IsS45.alloc {w0 W : World} {g : Nat} {f0 : Int} {f1 : Int} {f2 : Bool} {f3 : List Int} (h : IsS45 w0 W g f0 f1 f2 f3) (o : Obj) : IsS45 w0 (W.alloc o) g f0 f1 f2 f3 := h.below (below_alloc (Below.refl _ _) o)
theorem IsS45.drewN {w0 W : World} {g : Nat} {f0 : Int} {f1 : Int} {f2 : Bool} {f3 : List Int} (h : IsS45 w0 W g f0 f1 f2 f3) (m : Nat) : IsS45 w0 (W.drewN m) g f0 f1 f2 f3 := h
theorem IsS45.drew {w0 W : World} {g : Nat} {f0 : Int} {f1 : Int} {f2 : Bool} {f3 : List Int} (h : IsS45 w0 W g f0 f1 f2 f3) : IsS45 w0 W.drew g f0 f1 f2 f3 := h
theorem IsS45.at_ {w0 W : World} {g : Nat} {f0 : Int} {f1 : Int} {f2 : Bool} {f3 : List Int} {w' : World} {m : Nat} (hq : W.drewN m = w') (h : IsS45 w0 W g f0 f1 f2 f3) : IsS45 w0 w' g f0 f1 f2 f3 := by subst hq; exact IsS45.drewN h m
theorem IsS45.apart {w0 W : World} {g : Nat} {f0 : Int} {f1 : Int} {f2 : Bool} {f3 : List Int} {α : Type} {d : Kd α} {e : Nat} {base : Nat} {ok : Nat → Prop} {v : Value} {xs : List α} (h : IsS45 w0 W g f0 f1 f2 f3) (ho : d.R e W base ok v xs) (ht : ∀ q, q ∈ e :: d.E → q ≠ 45) : d.R e W base (fun k => ok k ∧ k ≠ g) v xs := by
  obtain ⟨A3, c3, hb, hg, hr3⟩ := h
  exact Kd.R_types ho hb ht
theorem IsS45.own_ne {w0 W : World} {g : Nat} {f0 : Int} {f1 : Int} {f2 : Bool} {f3 : List Int} {α : Type} {d : Kd α} {e : Nat} {base : Nat} {ok : Nat → Prop} {v : Value} {xs : List α} (h : IsS45 w0 W g f0 f1 f2 f3) (ho : d.R e W base ok v xs) (ht : e ≠ 45) : some g ≠ v.ownBlock := by
  obtain ⟨A3, c3, hb, hg, hr3⟩ := h
  exact Kd.R_ne ho hb ht
theorem IsS45.apartQ {w0 W : World} {g : Nat} {f0 : Int} {f1 : Int} {f2 : Bool} {f3 : List Int} {α : Type} {d : Kd α} {e : Nat} {base : Nat} {ok : Nat → Prop} {v : Value} {xs : List α} (h : IsS45 w0 W g f0 f1 f2 f3) (ho : d.Q e W base ok v xs) (ht : ∀ q, q ∈ e :: d.E → q ≠ 45) : d.Q e W base (fun k => ok k ∧ k ≠ g) v xs := by
  obtain ⟨A3, c3, hb, hg, hr3⟩ := h
  exact Kd.Q_types ho hb ht
theorem IsS45.own_neQ {w0 W : World} {g : Nat} {f0 : Int} {f1 : Int} {f2 : Bool} {f3 : List Int} {α : Type} {d : Kd α} {e : Nat} {base : Nat} {ok : Nat → Prop} {v : Value} {xs : List α} (h : IsS45 w0 W g f0 f1 f2 f3) (ho : d.Q e W base ok v xs) (ht : e ≠ 45) : some g ≠ v.ownBlock := by
  obtain ⟨A3, c3, hb, hg, hr3⟩ := h
  exact Kd.Q_ne ho hb ht
theorem IsS45.apartS {w0 W : World} {g : Nat} {f0 : Int} {f1 : Int} {f2 : Bool} {f3 : List Int} {α : Type} {d : Kd α} {e : Nat} {base : Nat} {ok : Nat → Prop} {v : Value} {xs : List α} (h : IsS45 w0 W g f0 f1 f2 f3) (ho : d.S e W base ok v xs) (ht : ∀ q, q ∈ e :: d.E → q ≠ 45) : d.S e W base (fun k => ok k ∧ k ≠ g) v xs := by
  obtain ⟨A3, c3, hb, hg, hr3⟩ := h
  exact Kd.S_types ho hb ht
theorem IsS45.own_neS {w0 W : World} {g : Nat} {f0 : Int} {f1 : Int} {f2 : Bool} {f3 : List Int} {α : Type} {d : Kd α} {e : Nat} {base : Nat} {ok : Nat → Prop} {v : Value} {xs : List α} (h : IsS45 w0 W g f0 f1 f2 f3) (ho : d.S e W base ok v xs) (ht : e ≠ 45) : some g ≠ v.ownBlock := by
  obtain ⟨A3, c3, hb, hg, hr3⟩ := h
  exact Kd.S_ne ho hb ht
theorem IsS45.lt {w0 W : World} {g : Nat} {f0 : Int} {f1 : Int} {f2 : Bool} {f3 : List Int} (h : IsS45 w0 W g f0 f1 f2 f3) : g < W.heap.size := by
  obtain ⟨A3, c3, hb, hg, hr3⟩ := h
  exact blk_lt hb
theorem IsS45.ge {w0 W : World} {g : Nat} {f0 : Int} {f1 : Int} {f2 : Bool} {f3 : List Int} (h : IsS45 w0 W g f0 f1 f2 f3) : w0.heap.size ≤ g := by
  obtain ⟨A3, c3, hb, hg, hr3⟩ := h
  exact hg
theorem IsS45.ne_blk {w0 W : World} {g : Nat} {f0 : Int} {f1 : Int} {f2 : Bool} {f3 : List Int} {a : Nat} {cs : Array Value} {t : TypeId} {fr : Nat × Nat} (h : IsS45 w0 W g f0 f1 f2 f3) (hb2 : W.heap[a]? = some (.cells cs t fr)) (ht : t ≠ 45) : g ≠ a := by
  obtain ⟨A3, c3, hb, hg, hr3⟩ := h
  rintro rfl
  rw [hb] at hb2
  injection hb2 with hb2
  injection hb2 with _ ht2
  exact ht ht2.symm
theorem IsS45.far {w0 W : World} {g : Nat} {f0 : Int} {f1 : Int} {f2 : Bool} {f3 : List Int} {p : Addr} (h : IsS45 w0 W g f0 f1 f2 f3) (hne : g ≠ p.block) (u : Value) : IsS45 w0 (W.setCell p u) g f0 f1 f2 f3 := by
  obtain ⟨A3, c3, hb, hg, hr3⟩ := h
  exact ⟨A3, c3, blk_far hb hne u, hg, hr3⟩
theorem cellS45_0 {W : World} {g : Nat} {A3 : Option Addr} {c3 : Nat} {f0 : Int} {f1 : Int} {f2 : Bool} {f3 : List Int} (h : W.heap[g]? = some (.cells #[.int .i64 f0, .int .i64 f1, .bool f2, .slice A3 f3.length c3] 45 (0, 0))) : W.cell? ⟨g, 0, none⟩ = some (.int .i64 f0) := (blk_cell h 0).trans rfl
theorem IsS45.set_0 {w0 W : World} {g : Nat} {f0 : Int} {f1 : Int} {f2 : Bool} {f3 : List Int} (h : IsS45 w0 W g f0 f1 f2 f3) (x : Int) : IsS45 w0 (W.setCell ⟨g, 0, none⟩ (.int .i64 x)) g x f1 f2 f3 := by
  obtain ⟨A3, c3, hb, hg, hr3⟩ := h
  exact ⟨A3, c3, by simpa using blk_set hb 0 (.int .i64 x), hg, hr3⟩
theorem cellS45_1 {W : World} {g : Nat} {A3 : Option Addr} {c3 : Nat} {f0 : Int} {f1 : Int} {f2 : Bool} {f3 : List Int} (h : W.heap[g]? = some (.cells #[.int .i64 f0, .int .i64 f1, .bool f2, .slice A3 f3.length c3] 45 (0, 0))) : W.cell? ⟨g, 1, none⟩ = some (.int .i64 f1) := (blk_cell h 1).trans rfl
theorem IsS45.set_1 {w0 W : World} {g : Nat} {f0 : Int} {f1 : Int} {f2 : Bool} {f3 : List Int} (h : IsS45 w0 W g f0 f1 f2 f3) (x : Int) : IsS45 w0 (W.setCell ⟨g, 1, none⟩ (.int .i64 x)) g f0 x f2 f3 := by
  obtain ⟨A3, c3, hb, hg, hr3⟩ := h
  exact ⟨A3, c3, by simpa using blk_set hb 1 (.int .i64 x), hg, hr3⟩
theorem cellS45_2 {W : World} {g : Nat} {A3 : Option Addr} {c3 : Nat} {f0 : Int} {f1 : Int} {f2 : Bool} {f3 : List Int} (h : W.heap[g]? = some (.cells #[.int .i64 f0, .int .i64 f1, .bool f2, .slice A3 f3.length c3] 45 (0, 0))) : W.cell? ⟨g, 2, none⟩ = some (.bool f2) := (blk_cell h 2).trans rfl
theorem IsS45.set_2 {w0 W : World} {g : Nat} {f0 : Int} {f1 : Int} {f2 : Bool} {f3 : List Int} (h : IsS45 w0 W g f0 f1 f2 f3) (x : Bool) : IsS45 w0 (W.setCell ⟨g, 2, none⟩ (.bool x)) g f0 f1 x f3 := by
  obtain ⟨A3, c3, hb, hg, hr3⟩ := h
  exact ⟨A3, c3, by simpa using blk_set hb 2 (.bool x), hg, hr3⟩
theorem cellS45_3 {W : World} {g : Nat} {A3 : Option Addr} {c3 : Nat} {f0 : Int} {f1 : Int} {f2 : Bool} {f3 : List Int} (h : W.heap[g]? = some (.cells #[.int .i64 f0, .int .i64 f1, .bool f2, .slice A3 f3.length c3] 45 (0, 0))) : W.cell? ⟨g, 3, none⟩ = some (.slice A3 f3.length c3) := (blk_cell h 3).trans rfl
theorem IsS45.new (w0 W : World) (A3 : Option Addr) (c3 : Nat) (f0 : Int) (f1 : Int) (f2 : Bool) (f3 : List Int) (hB : Below w0.heap.size w0 W) (hr3 : Kd.C (Kd.int .u8) w0 A3 f3.length f3) : IsS45 w0 (W.alloc (.cells #[.int .i64 f0, .int .i64 f1, .bool f2, .slice A3 f3.length c3] 45)) W.heap.size f0 f1 f2 f3 := ⟨A3, c3, by simpa using heap_alloc_new W _, hB.size, hr3⟩


/-! ### halftoneref10_Pack -/
mutual
def halftoneref10_Pack.j0 : Nat → List Int → Int → Bool → Option (List Int × Int)
  | 0, _, _, _ => none
  | k + 1, x0, x1, x13 => if x13 = true then (some (([] : List Int), 1)) else (halftoneref10_Pack.l0 k x0 x1 ([] : List Int))
def halftoneref10_Pack.l0 : Nat → List Int → Int → List Int → Option (List Int × Int)
  | 0, _, _, _ => none
  | k + 1, x0, x1, x6 => if (x0.length : Int) > 0 then (if x6.length < 140737488355328 then ((some (x6 ++ [(mn x1 (x0.length : Int)) % 256] : List Int)).bind fun y104 => (if 0 ≤ (mn x1 (x0.length : Int)) then (if (mn x1 (x0.length : Int)) ≤ (x0.length : Int) then ((some (x0.take ((mn x1 (x0.length : Int)) : Int).toNat : List Int)).bind fun y107 => (if y104.length + y107.length < 140737488355328 then (halftoneref10_Pack.l0 k (x0.drop ((mn x1 (x0.length : Int)) : Int).toNat) x1 (y104 ++ y107)) else (none))) else (none)) else (none))) else (none)) else (if x6.length < 140737488355328 then (some ((x6 ++ [0]), 0)) else (none))
end
def halftoneref10_Pack.f (k : Nat) (l0 : List Int) (a1 : Int) : Option (List Int × Int) := if a1 < 1 then (halftoneref10_Pack.j0 k l0 a1 true) else (halftoneref10_Pack.j0 k l0 a1 (decide (a1 > 255)))
theorem halftoneref10_Pack.mono_l : ∀ k, (∀ y0 y1 y2, LeO (halftoneref10_Pack.j0 k y0 y1 y2) (halftoneref10_Pack.j0 (k + 1) y0 y1 y2)) ∧ (∀ y0 y1 y2, LeO (halftoneref10_Pack.l0 k y0 y1 y2) (halftoneref10_Pack.l0 (k + 1) y0 y1 y2))
  | 0 => ⟨fun _ _ _ r h => by simp [halftoneref10_Pack.j0] at h, fun _ _ _ r h => by simp [halftoneref10_Pack.l0] at h⟩
  | k + 1 => by
    obtain ⟨ih0, ih1⟩ := halftoneref10_Pack.mono_l k
    refine ⟨?_, ?_⟩
    · intro y0 y1 y2
      unfold halftoneref10_Pack.j0
      repeat' first
      | (with_reducible exact ih0 _ _ _)
      | (with_reducible exact ih1 _ _ _)
      | (with_reducible exact LeO.refl _)
      | (with_reducible exact LeO.none _)
      | (with_reducible refine LeO.ite ?_ ?_)
      | (with_reducible refine LeO.bind ?_ (fun _ => ?_))
      | exact ih0 _ _ _
      | exact ih1 _ _ _
      | exact LeO.none _
      | refine LeO.ite ?_ ?_
      | refine LeO.bind ?_ (fun _ => ?_)
    · intro y0 y1 y2
      unfold halftoneref10_Pack.l0
      repeat' first
      | (with_reducible exact ih0 _ _ _)
      | (with_reducible exact ih1 _ _ _)
      | (with_reducible exact LeO.refl _)
      | (with_reducible exact LeO.none _)
      | (with_reducible refine LeO.ite ?_ ?_)
      | (with_reducible refine LeO.bind ?_ (fun _ => ?_))
      | exact ih0 _ _ _
      | exact ih1 _ _ _
      | exact LeO.none _
      | refine LeO.ite ?_ ?_
      | refine LeO.bind ?_ (fun _ => ?_)
theorem halftoneref10_Pack.mono : ∀ a0 a1 k, LeO (halftoneref10_Pack.f k a0 a1) (halftoneref10_Pack.f (k + 1) a0 a1) := by
  intro a0 a1 k
  obtain ⟨ih0, ih1⟩ := halftoneref10_Pack.mono_l k
  unfold halftoneref10_Pack.f
  repeat' first
      | (with_reducible exact ih0 _ _ _)
      | (with_reducible exact ih1 _ _ _)
      | (with_reducible exact LeO.refl _)
      | (with_reducible exact LeO.none _)
      | (with_reducible refine LeO.ite ?_ ?_)
      | (with_reducible refine LeO.bind ?_ (fun _ => ?_))
      | exact ih0 _ _ _
      | exact ih1 _ _ _
      | exact LeO.none _
      | refine LeO.ite ?_ ?_
      | refine LeO.bind ?_ (fun _ => ?_)
def halftoneref10_Pack.T6 : Bool × List (List Nat × List Nat) := (true, [([], []), ([], []), ([1], [1]), ([2], [2]), ([0, 3], [0, 3]), ([], []), ([], []), ([5, 6], [5, 6]), ([4, 7, 4], [4, 7]), ([8, 8, 0, 1, 2, 3, 4, 5, 6, 7, 8], [0, 8])])
def halftoneref10_Pack.B6 : List Nat := [0, 0, 2, 6, 15, 0, 0, 96, 255, 511]
theorem halftoneref10_Pack.tab6 : rtab .any (opsOf Try.f9 6) = halftoneref10_Pack.T6 := by kernel_rfl
theorem halftoneref10_Pack.bits6 : waitsOk halftoneref10_Pack.T6.2 halftoneref10_Pack.B6 = true := by kernel_rfl
set_option maxHeartbeats 8000000 in
set_option maxRecDepth 100000 in
theorem halftoneref10_Pack.calls (k : Nat) (P0_ : Nat → Prop) (A0 : Option Addr) (c0 : Nat) (l0 : List Int) (a1 : Int) (r1 : List Int) (r2 : Int) (w : World) (hs0 : Kd.V (Kd.int .u8) 5 w w.heap.size (fun k_ => P0_ k_) (.slice A0 l0.length c0) l0) (h : halftoneref10_Pack.f k l0 a1 = some (r1, r2)) :
    Calls Try.prog 9 #[.slice A0 l0.length c0, .int .i64 a1] w fun e w' => ∃ v0_ : Value, e = .returned (.tuple #[v0_, .int .i64 r2]) ∧ Kd.R (Kd.int .u8) 5 w' w.heap.size (fun k_ => (w.heap.size ≤ k_)) v0_ r1 ∧ Below w.heap.size w w' := by
  have HO0 := Aside0.mk (show Kd.V (Kd.int .u8) 5 w w.heap.size (fun k_ => (P0_ k_ ∨ w.heap.size ≤ k_)) (.slice A0 l0.length c0) l0 from Kd.V_mono hs0 (fun k_ hk => .inl hk))
  have HB := Aside0.mk (Below.refl w.heap.size w)
  have H : (if a1 < 1 then (halftoneref10_Pack.j0 k l0 a1 true) else (halftoneref10_Pack.j0 k l0 a1 (decide (a1 > 255)))) = some (r1, r2) := h
  clear h
  have HC3 := Aside0.mk H
  clear H
  go_enter Try.func9, Try.ntmps9
  go_upto_region 1 with (fail)
  go_cut [13] (fun v13 wc => ∃ (kq : Nat) (x13_2 : Bool), v13 = .bool x13_2 ∧ Aside0 (halftoneref10_Pack.j0 kq l0 a1 x13_2 = some (r1, r2)) ∧ Aside0 (kq ≤ k) ∧ Aside0 (Kd.V (Kd.int .u8) 5 wc w.heap.size (fun k_ => (P0_ k_ ∨ w.heap.size ≤ k_)) (.slice A0 l0.length c0) l0) ∧ Aside0 (Below w.heap.size w wc))
  case first =>
    have H := HC3.out
    clear HC3
    by_cases c4 : a1 < 1
    · rw [if_pos c4] at H
      have c4b0 : decide (a1 < 1) = true := decide_eq_true c4
      clear c4
      (first | rw [c4b0] | (simp only [i64_w, i32_w]; rw [c4b0]) | skip)
      have H' := Aside0.mk H
      clear H
      go_wp2
      go_meet
      case rel => exact ⟨_, (true), (by first | rfl | (simp; done) | (simp [*]; done)), H', ⟨by first | omega | exact Nat.le_refl _⟩, ⟨by (with_reducible repeat (first | apply Kd.V_alloc | apply Kd.V_drewN | apply Kd.V_drew)); exact HO0.out⟩, ⟨by repeat (first | (with_reducible first | exact HB.out | apply below_alloc | apply pw_below_drewN | apply below_drew1) | exact HB.out)⟩⟩
    · rw [if_neg c4] at H
      have c4b0 : decide (a1 < 1) = false := decide_eq_false c4
      clear c4
      (first | rw [c4b0] | (simp only [i64_w, i32_w]; rw [c4b0]) | skip)
      have H' := Aside0.mk H
      clear H
      go_wp2
      go_meet
      case rel => exact ⟨_, (decide (a1 > 255)), (by first | rfl | (simp; done) | (simp [*]; done)), H', ⟨by first | omega | exact Nat.le_refl _⟩, ⟨by (with_reducible repeat (first | apply Kd.V_alloc | apply Kd.V_drewN | apply Kd.V_drew)); exact HO0.out⟩, ⟨by repeat (first | (with_reducible first | exact HB.out | apply below_alloc | apply pw_below_drewN | apply below_drew1) | exact HB.out)⟩⟩
  case rest =>
    clear HC3
    try clear p2
    try clear c4
    try clear c4b0
    obtain ⟨kq, x13_2, rfl, HA, HJ2, HO_0, HB⟩ := hcut
    cases kq with
    | zero => exact absurd HA.out (by simp [halftoneref10_Pack.j0])
    | succ kj2 =>
      have H := HA.out
      clear HA
      simp only [halftoneref10_Pack.j0] at H
      by_cases c5 : x13_2 = true
      · subst c5
        have H1 : (some (([] : List Int), 1)) = some (r1, r2) := by rw [if_pos rfl] at H; exact H
        clear H
        have H := H1
        clear H1
        simp only [Option.some.injEq, Prod.mk.injEq] at H
        obtain ⟨rfl, rfl⟩ := H
        go_wp2
        go_ret2
        exact ⟨_, by first | rfl | (simp [errW_none, errW_some] <;> rfl) | (simp [*, errW_none, errW_some] <;> rfl), by first | exact Kd.R_nil _ _ _ _ _ | exact Kd.N_nil _ _ _ _ _ | exact Kd.V_nil _ _ _ _ _ | exact Kd.Q_nil _ _ _ _ _ | exact Kd.S_nil _ _ _ _ _, by repeat (first | (with_reducible first | exact HB.out | apply below_alloc | apply pw_below_drewN | apply below_drew1) | exact HB.out)⟩
      · replace c5 := Bool.eq_false_iff.mpr c5
        subst c5
        have H1 : (halftoneref10_Pack.l0 kj2 l0 a1 ([] : List Int)) = some (r1, r2) := by rw [if_neg (show ¬ (false = true) by decide)] at H; exact H
        clear H
        have H := H1
        clear H1
        have H' := Aside0.mk H
        clear H
        go_wp2
        go_loopg [0, 6] kj2 (fun kq v0 v6 w' => ∃ (x0_2 : List Int) (x6_2 : List Int), Aside0 (halftoneref10_Pack.l0 kq x0_2 a1 x6_2 = some (r1, r2)) ∧ Aside0 (kq ≤ kj2) ∧ Aside0 (Kd.V (Kd.int .u8) 5 w' w.heap.size (fun k_ => (P0_ k_ ∨ w.heap.size ≤ k_) ∧ some k_ ≠ (v6 : Value).ownBlock) v0 x0_2) ∧ Aside0 (Kd.R (Kd.int .u8) 5 w' w.heap.size (fun k_ => (w.heap.size ≤ k_)) v6 x6_2) ∧ Aside0 (Below w.heap.size w w'))
        case atStart => exact ⟨(l0), (([] : List Int)), H', ⟨Nat.le_refl _⟩, ⟨by (with_reducible repeat (first | apply Kd.V_alloc | apply Kd.V_drewN | apply Kd.V_drew)); exact Kd.V_mono HO_0.out (fun _ hk => ⟨hk, (by simp [Value.ownBlock])⟩)⟩, ⟨by first | exact Kd.R_nil _ _ _ _ _ | exact Kd.N_nil _ _ _ _ _ | exact Kd.V_nil _ _ _ _ _ | exact Kd.Q_nil _ _ _ _ _ | exact Kd.S_nil _ _ _ _ _⟩, ⟨by repeat (first | (with_reducible first | exact HB.out | apply below_alloc | apply pw_below_drewN | apply below_drew1) | exact HB.out)⟩⟩
        case round =>
          clear H'
          try clear p2
          try clear c4
          try clear c4b0
          try clear c5
          try clear p2
          obtain ⟨x0_2, x6_2, HA, HK2, HO_0, HO_6, HB⟩ := hrel
          cases gk with
          | zero => exact absurd HA.out (by simp [halftoneref10_Pack.l0])
          | succ k2 =>
            have H := HA.out
            clear HA
            simp only [halftoneref10_Pack.l0] at H
            by_cases c6 : (x0_2.length : Int) > 0
            · rw [if_pos c6] at H
              have c6b0 : decide (0 < (x0_2.length : Int)) = true := decide_eq_true c6
              have c6b1 : decide (0 < x0_2.length) = true := decide_eq_true (by omega)
              clear c6
              obtain ⟨ji7, hji7⟩ : ∃ j_ : Int, (mn a1 (x0_2.length : Int)) = j_ := ⟨_, rfl⟩
              replace H : (if x6_2.length < 140737488355328 then ((some (x6_2 ++ [(ji7) % 256] : List Int)).bind fun y104 => (if 0 ≤ (ji7) then (if (ji7) ≤ (x0_2.length : Int) then ((some (x0_2.take ((ji7) : Int).toNat : List Int)).bind fun y107 => (if y104.length + y107.length < 140737488355328 then (halftoneref10_Pack.l0 k2 (x0_2.drop ((ji7) : Int).toNat) a1 (y104 ++ y107)) else (none))) else (none)) else (none))) else (none)) = some (r1, r2) := by first | (rw [hji7] at H; exact H) | (simp only [hji7] at H ⊢; exact H)
              have hji7_ : (if (x0_2.length : Int) < a1 then (x0_2.length : Int) else a1) = ji7 := hji7
              by_cases c8 : x6_2.length < 140737488355328
              · rw [if_pos c8] at H
                have LMc8 := Aside0.mk c8
                clear c8
                obtain ⟨y104, hy104⟩ : ∃ y_ : List Int, y_ = (x6_2 ++ [(ji7) % 256]) := ⟨_, rfl⟩
                replace H : (if 0 ≤ (ji7) then (if (ji7) ≤ (x0_2.length : Int) then ((some (x0_2.take ((ji7) : Int).toNat : List Int)).bind fun y107 => (if y104.length + y107.length < 140737488355328 then (halftoneref10_Pack.l0 k2 (x0_2.drop ((ji7) : Int).toNat) a1 (y104 ++ y107)) else (none))) else (none)) else (none)) = some (r1, r2) := by first | (rw [hy104]; with_reducible exact H) | (have H2_ := (Option.bind_some _ _).symm.trans H; rw [hy104]; with_reducible exact H2_) | (have H2_ := (Option.bind_some _ _).symm.trans H; with_reducible exact H2_) | with_reducible exact H | (rw [hy104]; exact H) | exact H
                have Ny104 := Aside0.mk hy104
                clear hy104
                by_cases c9 : 0 ≤ (ji7)
                · rw [if_pos c9] at H
                  have c9b0 := eq_true c9
                  have c9b1 : decide (0 ≤ (ji7)) = true := decide_eq_true c9
                  clear c9
                  by_cases c10 : (ji7) ≤ (x0_2.length : Int)
                  · rw [if_pos c10] at H
                    have c10b0 := eq_true c10
                    have c10b1 : decide ((ji7) ≤ (x0_2.length : Int)) = true := decide_eq_true c10
                    clear c10
                    obtain ⟨y107, hy107⟩ : ∃ y_ : List Int, y_ = (x0_2.take ((ji7) : Int).toNat) := ⟨_, rfl⟩
                    replace H : (if y104.length + y107.length < 140737488355328 then (halftoneref10_Pack.l0 k2 (x0_2.drop ((ji7) : Int).toNat) a1 (y104 ++ y107)) else (none)) = some (r1, r2) := by first | (rw [hy107]; with_reducible exact H) | (have H2_ := (Option.bind_some _ _).symm.trans H; rw [hy107]; with_reducible exact H2_) | (have H2_ := (Option.bind_some _ _).symm.trans H; with_reducible exact H2_) | with_reducible exact H | (rw [hy107]; exact H) | exact H
                    have Ny107 := Aside0.mk hy107
                    clear hy107
                    by_cases c11 : y104.length + y107.length < 140737488355328
                    · rw [if_pos c11] at H
                      have LMc11 := Aside0.mk c11
                      clear c11
                      obtain ⟨y112, hy112⟩ : ∃ y_ : List Int, y_ = (y104 ++ y107) := ⟨_, rfl⟩
                      replace H : (halftoneref10_Pack.l0 k2 (x0_2.drop ((ji7) : Int).toNat) a1 y112) = some (r1, r2) := by first | (rw [hy112]; with_reducible exact H) | (have H2_ := (Option.bind_some _ _).symm.trans H; rw [hy112]; with_reducible exact H2_) | (have H2_ := (Option.bind_some _ _).symm.trans H; with_reducible exact H2_) | with_reducible exact H | (rw [hy112]; exact H) | exact H
                      have Ny112 := Aside0.mk hy112
                      clear hy112
                      have c12b0 := eq_true (of_decide_eq_true (by first | (with_reducible assumption) | assumption) : 0 ≤ (ji7))
                      have c13b0 := eq_true (of_decide_eq_true (by first | (with_reducible assumption) | assumption) : (ji7) ≤ (x0_2.length : Int))
                      obtain ⟨y115, hy115⟩ : ∃ y_ : List Int, y_ = (x0_2.drop ((ji7) : Int).toNat) := ⟨_, rfl⟩
                      replace H : (halftoneref10_Pack.l0 k2 y115 a1 y112) = some (r1, r2) := by first | (rw [hy115]; with_reducible exact H) | (have H2_ := (Option.bind_some _ _).symm.trans H; rw [hy115]; with_reducible exact H2_) | (have H2_ := (Option.bind_some _ _).symm.trans H; with_reducible exact H2_) | with_reducible exact H | (rw [hy115]; exact H) | exact H
                      have Ny115 := Aside0.mk hy115
                      clear hy115
                      have H' := Aside0.mk H
                      clear H
                      obtain ⟨Ao14, co14, eo14⟩ := Kd.V_slice HO_0.out
                      subst eo14
                      try go_wp2
                      have n0_ := Aside0.mk (Kd.V_drew HO_0.out)
                      have n1_ := Aside0.mk (Kd.R_drew HO_6.out)
                      have n2_ := Aside0.mk (below_drew1 HB.out)
                      clear HO_0
                      clear HO_6
                      clear HB
                      have HO_0 := n0_
                      have HO_6 := n1_
                      have HB := n2_
                      clear n0_ n1_ n2_
                      have q16 : ((ji7) : Int) ≤ ((x0_2.length : Int) : Int) := of_decide_eq_true (by first | (with_reducible assumption) | assumption)
                      obtain ⟨i016, hi016, _, hsz16, _⟩ := info_parts info5
                      have hroom16 : x0_2.length ≤ co14 := (Kd.V_reads' HO_0.out).2.1
                      have hC16 : Kd.F (Kd.int .u8) _ _ Ao14 x0_2.length x0_2 := (Kd.V_at (base := w.heap.size) HO_0.out).2.2
                      have hcut16 := cut_to (P := Try.prog) 22 5 .i64 Try.underlying22 hi016 Ao14 x0_2.length co14 (ji7) (of_decide_eq_true (by first | (with_reducible assumption) | assumption)) q16 hroom16
                      have hr16 := Kd.F_take (m := ((ji7) : Int).toNat) hC16 (by omega)
                      have hy16 : y107.length = ((ji7) : Int).toNat := (by rw [Ny107.out, List.length_take]; omega)
                      rw [← Ny107.out] at hr16
                      rw [← hy16] at hcut16
                      have HO111 := Aside0.mk (show Kd.V (Kd.int .u8) 5 _ w.heap.size _ (.slice Ao14 y107.length co14) y107 from Kd.V_mk (by omega) hr16)
                      have HC111 := Aside0.mk (show y107.length ≤ co14 from by omega)
                      clear hr16 hC16 hroom16 hi016 hsz16
                      have KY16 := Aside0.mk hy16
                      clear hy16
                      replace q16 := eq_true q16
                      refine start_ (n := 10) (S := fun w' => True) (ds := []) #[false, false, false, false, false, false, false, false, false, false] (by kernel_rfl) rfl rfl trivial (fun hHeld => ?_); refine with_tabW halftoneref10_Pack.tab6 halftoneref10_Pack.bits6 (fun HT_ HW_ => ?_)
                      generalize wr.drew = w15 at HO_0 HO_6 HB HO111 hHeld ⊢
                      refine pure_ (i := 0) (N := some 21) (v := ?_) (a' := ?_) #[true, false, false, false, false, false, false, false, false, false] rfl rfl (any_of HT_.out (by kernel_rfl)) (fun _ _ _ h => h) (Or.inl ⟨by rfl, ?_⟩) ?_ ?_
                      rotate_left
                      · intro w'
                        go_simp
                        with_reducible rfl
                      rotate_left
                      · simp only [Act.put, List.setIfInBounds_toArray, List.set_cons_zero, List.set_cons_succ, i64_w, i32_w]
                        rfl
                      refine pure_ (i := 1) (N := some 22) (v := ?_) (a' := ?_) #[true, true, false, false, false, false, false, false, false, false] rfl rfl (any_of HT_.out (by kernel_rfl)) (fun _ _ _ h => h) (Or.inl ⟨by rfl, ?_⟩) ?_ ?_
                      rotate_left
                      · intro w'
                        go_simp
                        with_reducible rfl
                      rotate_left
                      · simp only [Act.put, List.setIfInBounds_toArray, List.set_cons_zero, List.set_cons_succ, i64_w, i32_w]
                        rfl
                      refine pure_ (i := 2) (N := some 23) (v := ?_) (a' := ?_) #[true, true, true, false, false, false, false, false, false, false] rfl rfl (any_of HT_.out (by kernel_rfl)) (fun _ _ _ h => h) (Or.inl ⟨by rfl, ?_⟩) ?_ ?_
                      rotate_left
                      · intro w'
                        go_simp
                        with_reducible rfl
                      rotate_left
                      · simp only [Act.put, List.setIfInBounds_toArray, List.set_cons_zero, List.set_cons_succ, i64_w, i32_w]
                        rfl
                      refine pure_ (i := 5) (N := some 26) (v := ?_) (a' := ?_) #[true, true, true, false, false, true, false, false, false, false] rfl rfl (any_of HT_.out (by kernel_rfl)) (fun _ _ _ h => h) (Or.inl ⟨by rfl, ?_⟩) ?_ ?_
                      rotate_left
                      · intro w'
                        go_simp
                        with_reducible rfl
                      rotate_left
                      · simp only [Act.put, List.setIfInBounds_toArray, List.set_cons_zero, List.set_cons_succ, i64_w, i32_w]
                        rfl
                      refine pure_ (i := 6) (N := some 27) (v := ?_) (a' := ?_) #[true, true, true, false, false, true, true, false, false, false] rfl rfl (any_of HT_.out (by kernel_rfl)) (fun _ _ _ h => h) (Or.inl ⟨by rfl, ?_⟩) ?_ ?_
                      rotate_left
                      · intro w'
                        go_simp
                        with_reducible rfl
                      rotate_left
                      · simp only [Act.put, List.setIfInBounds_toArray, List.set_cons_zero, List.set_cons_succ, i64_w, i32_w]
                        rfl
                      refine pure_ (i := 7) (N := some 28) (v := ?_) (a' := ?_) #[true, true, true, false, false, true, true, true, false, false] rfl rfl (any_of HT_.out (by kernel_rfl)) (fun _ _ _ h => h) (Or.inl ⟨by rfl, ?_⟩) ?_ ?_
                      rotate_left
                      · intro w'
                        go_simp
                        with_reducible rfl
                      rotate_left
                      · simp only [Act.put, List.setIfInBounds_toArray, List.set_cons_zero, List.set_cons_succ, i64_w, i32_w]
                        rfl
                      refine one_ (i := 3) (N := some 24) #[true, true, true, true, false, true, true, true, false, false] rfl rfl (one_of HT_.out (by kernel_rfl)) (by decide) (fun K hK => ?_)
                      refine value_ (w1 := ?_) (v := ?_) (by rfl) rfl ?_ ?_
                      rotate_left 2
                      · go_simp
                        constructor
                        · rfl
                        · rfl
                      refine hK.out _ _ trivial (fun hHeld => ?_)
                      clear hK K
                      refine norm_ (a' := ?_) ?_ ?_
                      rotate_left
                      · show Act.put _ (some 24) _ = _
                        simp only [Act.put, List.setIfInBounds_toArray, List.set_cons_zero, List.set_cons_succ, i64_w, i32_w]
                        rfl
                      refine one_ (i := 4) (N := some 25) #[true, true, true, true, true, true, true, true, false, false] rfl rfl (one_of HT_.out (by kernel_rfl)) (by decide) (fun K hK => ?_)
                      refine Kd.R_append_step (Kd.int .u8) (w0 := w) w.heap.size (by rfl) (.tmp 21) (.tmp 24) 22 5 (.int .u8 0) 1 rfl Try.underlying22 info5 rfl (by decide) (by omega) u6 x6_2 ((ji7) % 256) [.int .u8 ((ji7) % 256)] (fun k_ => (w.heap.size ≤ k_)) (fun _ => False) rfl rfl ?aP (fun _ hk => hk.elim) ?aF ?aO ?aB ?aS ?aL ?_
                      (case aP => exact rfl)
                      (case aB => exact (by repeat (first | (with_reducible first | exact HB.out | apply below_alloc | apply pw_below_drewN | apply below_drew1) | exact HB.out)))
                      (case aF => exact (fun k_ hk => (Nat.le_trans (below_size (by repeat (first | (with_reducible first | exact HB.out | apply below_alloc | apply pw_below_drewN | apply below_drew1) | exact HB.out))) hk)))
                      (case aO => exact (by (with_reducible repeat (first | apply Kd.R_alloc | apply Kd.R_drewN | apply Kd.R_drew)); exact HO_6.out))
                      (case aS => exact (below_size (by repeat (first | (with_reducible first | exact HB.out | apply below_alloc | apply pw_below_drewN | apply below_drew1) | exact HB.out))))
                      (case aL => have := LMc8.out; omega)
                      intro v105 w17 ho hb hg hat
                      rw [← Ny104.out] at ho
                      have n0_ := Aside0.mk (Kd.V_afterv (ok := (fun k_ => (P0_ k_ ∨ w.heap.size ≤ k_))) (by (with_reducible repeat (first | apply Kd.V_alloc | apply Kd.V_drewN | apply Kd.V_drew)); exact HO_0.out) hg hat)
                      have n1_ := Aside0.mk (Kd.V_afterv (ok := (fun k_ => (P0_ k_ ∨ w.heap.size ≤ k_))) (by (with_reducible repeat (first | apply Kd.V_alloc | apply Kd.V_drewN | apply Kd.V_drew)); exact HO111.out) hg hat)
                      have n2_ := Aside0.mk (hb)
                      have n3_ := Aside0.mk (ho)
                      clear HO_0
                      clear HO111
                      clear HB
                      clear HO_6
                      have HO_0 := n0_
                      have HO111 := n1_
                      have HB := n2_
                      have HO106 := n3_
                      clear n0_ n1_ n2_ n3_
                      clear ho hb hg hat
                      refine hK.out _ _ trivial (fun hHeld => ?_)
                      clear hK K
                      refine norm_ (a' := ?_) ?_ ?_
                      rotate_left
                      · show Act.put _ (some 25) _ = _
                        simp only [Act.put, List.setIfInBounds_toArray, List.set_cons_zero, List.set_cons_succ, i64_w, i32_w]
                        rfl
                      refine one_ (i := 8) (N := some 29) #[true, true, true, true, true, true, true, true, true, false] rfl rfl (one_of HT_.out (by kernel_rfl)) (by decide) (fun K hK => ?_)
                      refine Kd.R_append_rows_step (Kd.int .u8) (w0 := w) w.heap.size (by rfl) (.tmp 25) (.tmp 28) 22 5 (.int .u8 0) 1 rfl Try.underlying22 info5 rfl (by decide) (by omega) v105 y104 y107 _ _ _ (fun k_ => (w.heap.size ≤ k_)) (fun _ => False) rfl rfl ?aO ?aR (fun _ _ h => h) (fun _ h => h.elim) ?aF ?aB ?aS ?aL ?_
                      (case aR => repeat (first | exact (Kd.V_reads' HO111.out).2.2 | (with_reducible refine Kd.C_alloc ?_ _) | (with_reducible refine Kd.C_drewN ?_ _) | (with_reducible refine Kd.C_drew ?_)))
                      (case aB => exact (by repeat (first | (with_reducible first | exact HB.out | apply below_alloc | apply pw_below_drewN | apply below_drew1) | exact HB.out)))
                      (case aF => exact (fun k_ hk => (Nat.le_trans (below_size (by repeat (first | (with_reducible first | exact HB.out | apply below_alloc | apply pw_below_drewN | apply below_drew1) | exact HB.out))) hk)))
                      (case aO => exact (by (with_reducible repeat (first | apply Kd.R_alloc | apply Kd.R_drewN | apply Kd.R_drew)); exact HO106.out))
                      (case aS => exact (below_size (by repeat (first | (with_reducible first | exact HB.out | apply below_alloc | apply pw_below_drewN | apply below_drew1) | exact HB.out))))
                      (case aL => have := LMc11.out; omega)
                      intro v113 w18 ho hb hg hat
                      rw [← Ny112.out] at ho
                      have n0_ := Aside0.mk (Kd.V_afterv (ok := (fun k_ => (P0_ k_ ∨ w.heap.size ≤ k_))) (by (with_reducible repeat (first | apply Kd.V_alloc | apply Kd.V_drewN | apply Kd.V_drew)); exact HO_0.out) hg hat)
                      have n1_ := Aside0.mk (Kd.V_afterv (ok := (fun k_ => (P0_ k_ ∨ w.heap.size ≤ k_))) (by (with_reducible repeat (first | apply Kd.V_alloc | apply Kd.V_drewN | apply Kd.V_drew)); exact HO111.out) hg hat)
                      have n2_ := Aside0.mk (hb)
                      have n3_ := Aside0.mk (ho)
                      clear HO_0
                      clear HO111
                      clear HB
                      clear HO106
                      have HO_0 := n0_
                      have HO111 := n1_
                      have HB := n2_
                      have HO114 := n3_
                      clear n0_ n1_ n2_ n3_
                      clear ho hb hg hat
                      refine hK.out _ _ trivial (fun hHeld => ?_)
                      clear hK K
                      refine norm_ (a' := ?_) ?_ ?_
                      rotate_left
                      · show Act.put _ (some 29) _ = _
                        simp only [Act.put, List.setIfInBounds_toArray, List.set_cons_zero, List.set_cons_succ, i64_w, i32_w]
                        rfl
                      refine pure_ (i := 9) (N := some 6) (v := ?_) (a' := ?_) #[true, true, true, true, true, true, true, true, true, true] rfl rfl (any_of HT_.out (by kernel_rfl)) (fun _ _ _ h => h) (Or.inl ⟨by rfl, ?_⟩) ?_ ?_
                      rotate_left
                      · intro w'
                        go_simp
                        with_reducible rfl
                      rotate_left
                      · simp only [Act.put, List.setIfInBounds_toArray, List.set_cons_zero, List.set_cons_succ, i64_w, i32_w]
                        rfl
                      refine done_ (done_of HT_.out (by kernel_rfl)) ?_
                      have q19 : ((ji7) : Int) ≤ ((x0_2.length : Int) : Int) := of_decide_eq_true (by first | (with_reducible assumption) | assumption)
                      obtain ⟨i019, hi019, _, hsz19, _⟩ := info_parts info5
                      have hroom19 : x0_2.length ≤ co14 := (Kd.V_reads' HO_0.out).2.1
                      have hC19 : Kd.F (Kd.int .u8) _ _ Ao14 x0_2.length x0_2 := (Kd.V_at (base := w.heap.size) HO_0.out).2.2
                      have q019 : (0 : Int) ≤ ((ji7) : Int) := of_decide_eq_true (by first | (with_reducible assumption) | assumption)
                      have hcut19 := cut_from (P := Try.prog) 22 5 .i64 Try.underlying22 hi019 1 hsz19 Ao14 x0_2.length co14 (ji7) q019 q19
                      have hr19 := Kd.F_cut (m := ((ji7) : Int).toNat) (c := co14) hC19 (by omega) hroom19
                      obtain ⟨A19, hA19⟩ : ∃ A1, A1 = (if co14 = ((ji7) : Int).toNat then Ao14 else (Ao14 : Option Addr).map (·.add (((ji7) : Int).toNat * 1))) := ⟨_, rfl⟩
                      obtain ⟨c19, hc19⟩ : ∃ c1, c1 = co14 - ((ji7) : Int).toNat := ⟨_, rfl⟩
                      have hy19 : y115.length = x0_2.length - ((ji7) : Int).toNat := (by rw [Ny115.out, List.length_drop] <;> omega)
                      rw [show (x0_2).drop ((ji7) : Int).toNat = y115 from Ny115.out.symm] at hr19
                      replace hr19 : Kd.F (Kd.int .u8) _ _ A19 y115.length y115 := (by rw [hA19]; exact hr19)
                      rw [← hy19, ← hA19, ← hc19] at hcut19
                      have HO119 := Aside0.mk (show Kd.V (Kd.int .u8) 5 _ w.heap.size _ (.slice A19 y115.length c19) y115 from Kd.V_mk (by rw [hy19, hc19]; exact Nat.sub_le_sub_right hroom19 _) hr19)
                      have HC119 := Aside0.mk (show y115.length ≤ c19 from by rw [hy19, hc19]; exact Nat.sub_le_sub_right hroom19 _)
                      clear hr19 hC19 hroom19 hi019 hsz19 hc19
                      have KY19 := Aside0.mk hy19
                      have KA19 := Aside0.mk hA19
                      clear hy19 hA19
                      replace q19 := eq_true q19
                      try go_wp2
                      go_roundg k2
                      case measure => have := HJ2.out; have := HK2.out; omega
                      case rel => exact ⟨(y115), (y112), H', ⟨by have := HJ2.out; have := HK2.out; omega⟩, ⟨by (with_reducible repeat (first | apply Kd.V_alloc | apply Kd.V_drewN | apply Kd.V_drew)); exact HO119.out⟩, ⟨by (with_reducible repeat (first | apply Kd.R_alloc | apply Kd.R_drewN | apply Kd.R_drew)); exact HO114.out⟩, ⟨by repeat (first | (with_reducible first | exact HB.out | apply below_alloc | apply pw_below_drewN | apply below_drew1) | exact HB.out)⟩⟩
                    · rw [if_neg c11] at H
                      exact absurd H (by simp)
                  · rw [if_neg c10] at H
                    exact absurd H (by simp)
                · rw [if_neg c9] at H
                  exact absurd H (by simp)
              · rw [if_neg c8] at H
                exact absurd H (by simp)
            · rw [if_neg c6] at H
              have c6b0 : decide (0 < (x0_2.length : Int)) = false := decide_eq_false c6
              have c6b1 : decide (0 < x0_2.length) = false := decide_eq_false (by omega)
              clear c6
              by_cases c20 : x6_2.length < 140737488355328
              · rw [if_pos c20] at H
                have LMc20 := Aside0.mk c20
                clear c20
                obtain ⟨y120, hy120⟩ : ∃ y_ : List Int, y_ = (x6_2 ++ [0]) := ⟨_, rfl⟩
                replace H : (some (y120, 0)) = some (r1, r2) := by first | (rw [hy120]; with_reducible exact H) | (have H2_ := (Option.bind_some _ _).symm.trans H; rw [hy120]; with_reducible exact H2_) | (have H2_ := (Option.bind_some _ _).symm.trans H; with_reducible exact H2_) | with_reducible exact H | (rw [hy120]; exact H) | exact H
                have Ny120 := Aside0.mk hy120
                clear hy120
                simp only [Option.some.injEq, Prod.mk.injEq] at H
                obtain ⟨rfl, rfl⟩ := H
                obtain ⟨Ao21, co21, eo21⟩ := Kd.V_slice HO_0.out
                subst eo21
                go_wp2_with (first | ((with_reducible refine gate_builtin (b := .append) (xs := #[.tmp 33, .tmp 34]) rfl ?_); at_builtin; refine Kd.R_append (Kd.int .u8) (w0 := w) w.heap.size rfl (.tmp 33) (.tmp 34) 22 5 (.int .u8 0) 1 rfl Try.underlying22 info5 rfl (by decide) (by omega) u6 x6_2 0 [.int .u8 0] (fun k_ => (w.heap.size ≤ k_)) (fun _ => False) rfl rfl ?aP (fun _ hk => hk.elim) ?aF ?aO ?aB ?aS ?aL ?_; (case aP => exact rfl); (case aB => exact (by repeat (first | (with_reducible first | exact HB.out | apply below_alloc | apply pw_below_drewN | apply below_drew1) | exact HB.out))); (case aF => exact (fun k_ hk => (Nat.le_trans (below_size (by repeat (first | (with_reducible first | exact HB.out | apply below_alloc | apply pw_below_drewN | apply below_drew1) | exact HB.out))) hk))); (case aO => exact (by (with_reducible repeat (first | apply Kd.R_alloc | apply Kd.R_drewN | apply Kd.R_drew)); exact HO_6.out)); (case aS => exact (below_size (by repeat (first | (with_reducible first | exact HB.out | apply below_alloc | apply pw_below_drewN | apply below_drew1) | exact HB.out)))); (case aL => have := LMc20.out; omega); intro v121 w22 ho hb hg hat; rw [← Ny120.out] at ho; have n0_ := Aside0.mk (Kd.V_afterv (ok := (fun k_ => (P0_ k_ ∨ w.heap.size ≤ k_))) (by (with_reducible repeat (first | apply Kd.V_alloc | apply Kd.V_drewN | apply Kd.V_drew)); exact HO_0.out) hg hat); have n1_ := Aside0.mk (hb); have n2_ := Aside0.mk (ho); clear HO_0; clear HB; clear HO_6; have HO_0 := n0_; have HB := n1_; have HO122 := n2_; clear n0_ n1_ n2_; clear ho hb hg hat))
                go_ret2
                exact ⟨_, by first | rfl | (simp [errW_none, errW_some] <;> rfl) | (simp [*, errW_none, errW_some] <;> rfl), by (with_reducible repeat (first | apply Kd.R_alloc | apply Kd.R_drewN | apply Kd.R_drew)); exact HO122.out, by repeat (first | (with_reducible first | exact HB.out | apply below_alloc | apply pw_below_drewN | apply below_drew1) | exact HB.out)⟩
              · rw [if_neg c20] at H
                exact absurd H (by simp)


/-! ### halftoneref10_Of -/
def halftoneref10_Of.l0 : Nat → List Int → List Int → Bool → Int → Option (List Int × List Int × Bool × Int)
  | 0, _, _, _, _ => none
  | k + 1, x0, x118000, x118002, x118003 => if (x0.length : Int) > 0 then (if 0 < (x0.length : Int) then (if 1 ≤ (x0.length : Int) then ((some (x0.drop 1 : List Int)).bind fun y119 => (if (wrap64 (rd x0 0)) = 0 then ((some (([] : List Int) : List Int)).bind fun y124 => (if y124.length + y119.length < 140737488355328 then (some (x118000, (y124 ++ y119), true, wrap64 (x118003 + 1))) else (none))) else (if 0 ≤ (mn (wrap64 (rd x0 0)) (y119.length : Int)) then (if (mn (wrap64 (rd x0 0)) (y119.length : Int)) ≤ (y119.length : Int) then ((some (y119.take ((mn (wrap64 (rd x0 0)) (y119.length : Int)) : Int).toNat : List Int)).bind fun y130 => (if x118000.length + y130.length < 140737488355328 then (halftoneref10_Of.l0 k (y119.drop ((mn (wrap64 (rd x0 0)) (y119.length : Int)) : Int).toNat) (x118000 ++ y130) x118002 (wrap64 ((wrap64 (x118003 + 1)) + (mn (wrap64 (rd x0 0)) (y119.length : Int))))) else (none))) else (none)) else (none)))) else (none)) else (none)) else (some (x118000, ([] : List Int), x118002, x118003))
def halftoneref10_Of.f (k : Nat) (l0 : List Int) : Option (List Int × List Int × Bool × Int) := halftoneref10_Of.l0 k l0 ([] : List Int) false 0
theorem halftoneref10_Of.mono_l : ∀ k, (∀ y0 y1 y2 y3, LeO (halftoneref10_Of.l0 k y0 y1 y2 y3) (halftoneref10_Of.l0 (k + 1) y0 y1 y2 y3))
  | 0 => fun _ _ _ _ r h => by simp [halftoneref10_Of.l0] at h
  | k + 1 => by
    have ih0 := halftoneref10_Of.mono_l k
    · intro y0 y1 y2 y3
      unfold halftoneref10_Of.l0
      repeat' first
      | (with_reducible exact ih0 _ _ _ _)
      | (with_reducible exact LeO.refl _)
      | (with_reducible exact LeO.none _)
      | (with_reducible refine LeO.ite ?_ ?_)
      | (with_reducible refine LeO.bind ?_ (fun _ => ?_))
      | exact ih0 _ _ _ _
      | exact LeO.none _
      | refine LeO.ite ?_ ?_
      | refine LeO.bind ?_ (fun _ => ?_)
theorem halftoneref10_Of.mono : ∀ a0 k, LeO (halftoneref10_Of.f k a0) (halftoneref10_Of.f (k + 1) a0) := by
  intro a0 k
  have ih0 := halftoneref10_Of.mono_l k
  unfold halftoneref10_Of.f
  repeat' first
      | (with_reducible exact ih0 _ _ _ _)
      | (with_reducible exact LeO.refl _)
      | (with_reducible exact LeO.none _)
      | (with_reducible refine LeO.ite ?_ ?_)
      | (with_reducible refine LeO.bind ?_ (fun _ => ?_))
      | exact ih0 _ _ _ _
      | exact LeO.none _
      | refine LeO.ite ?_ ?_
      | refine LeO.bind ?_ (fun _ => ?_)
def halftoneref10_Of.T11 : Bool × List (List Nat × List Nat) := (true, [([], []), ([0], [0]), ([], []), ([], []), ([2, 3], [2, 3]), ([1, 4], [1, 4]), ([0, 1, 2, 3, 4, 5], []), ([6, 5, 5, 0, 1, 2, 3, 4, 5], [5, 6])])
def halftoneref10_Of.B11 : List Nat := [0, 1, 0, 0, 12, 31, 63, 127]
theorem halftoneref10_Of.tab11 : rtab .any (opsOf Try.f13 11) = halftoneref10_Of.T11 := by kernel_rfl
theorem halftoneref10_Of.bits11 : waitsOk halftoneref10_Of.T11.2 halftoneref10_Of.B11 = true := by kernel_rfl
set_option maxHeartbeats 8000000 in
set_option maxRecDepth 100000 in
theorem halftoneref10_Of.calls (k : Nat) (P0_ : Nat → Prop) (A0 : Option Addr) (c0 : Nat) (l0 : List Int) (r1 : List Int) (r2 : List Int) (r3 : Bool) (r4 : Int) (w : World) (hs0 : Kd.V (Kd.int .u8) 5 w w.heap.size (fun k_ => P0_ k_) (.slice A0 l0.length c0) l0) (h : halftoneref10_Of.f k l0 = some (r1, r2, r3, r4)) :
    Calls Try.prog 13 #[.slice A0 l0.length c0] w fun e w' => ∃ v0_ v1_ : Value, e = .returned (.agg #[v0_, v1_, .bool r3, .int .i64 r4]) ∧ Kd.R (Kd.int .u8) 5 w' w.heap.size (fun k_ => (w.heap.size ≤ k_) ∧ some k_ ≠ (v1_ : Value).ownBlock) v0_ r1 ∧ Kd.R (Kd.int .u8) 5 w' w.heap.size (fun k_ => (w.heap.size ≤ k_) ∧ some k_ ≠ (v0_ : Value).ownBlock) v1_ r2 ∧ Below w.heap.size w w' := by
  have hu34 := Try.underlying34
  have HO0 := Aside0.mk (show Kd.V (Kd.int .u8) 5 w w.heap.size (fun k_ => (P0_ k_ ∨ w.heap.size ≤ k_)) (.slice A0 l0.length c0) l0 from Kd.V_mono hs0 (fun k_ hk => .inl hk))
  have HB := Aside0.mk (Below.refl w.heap.size w)
  have H : (halftoneref10_Of.l0 k l0 ([] : List Int) false 0) = some (r1, r2, r3, r4) := h
  clear h
  have H' := Aside0.mk H
  clear H
  go_enter Try.func13, Try.ntmps13
  go_wp2_with (first | ((with_reducible refine gate_dst (N := 2) rfl ?_); refine box_event ?hg (N := 2) ?hd (cs := #[.slice none 0 0, .slice none 0 0, .bool false, .int .i64 0]) (t := 34) ?hr ?_; (case hd => rfl); (case hg => rfl); (case hr => first | (go_simp; done) | (go_simp; rfl)); intro gb116 hg w2 hbox hb; have n0_ := Aside0.mk (Kd.V_below (Kd.V_elderB (by (with_reducible repeat (first | apply Kd.V_alloc | apply Kd.V_drewN | apply Kd.V_drew)); exact HO0.out) gb116 (Nat.le_of_eq hg.symm)) hb); have n1_ := Aside0.mk (below_step (by repeat (first | (with_reducible first | exact HB.out | apply below_alloc | apply pw_below_drewN | apply below_drew1) | exact HB.out)) hb); have n2_ := Aside0.mk (hbox); have n3_ := Aside0.mk ((by rw [hg]; exact (below_size (by repeat (first | (with_reducible first | exact HB.out | apply below_alloc | apply pw_below_drewN | apply below_drew1) | exact HB.out))) : w.heap.size ≤ gb116)); have n4_ := Aside0.mk ((by rw [hg]; exact (below_size (by repeat (first | (with_reducible first | exact HB.out | apply below_alloc | apply pw_below_drewN | apply below_drew1) | exact HB.out))) : w.heap.size ≤ gb116)); clear HO0; clear HB; have HO0 := n0_; have HB := n1_; have BK116 := n2_; have GW116 := n3_; have GE116 := n4_; clear n0_ n1_ n2_ n3_ n4_; clear hb hbox hg) | ((with_reducible refine gate_dst (N := 3) rfl ?_); refine box_event ?hg (N := 3) ?hd (cs := #[.slice none 0 0, .slice none 0 0, .bool false, .int .i64 0]) (t := 34) ?hr ?_; (case hd => rfl); (case hg => rfl); (case hr => first | (go_simp; done) | (go_simp; rfl)); intro gb117 hg w3 hbox hb; have n0_ := Aside0.mk (Kd.V_below (Kd.V_elderB (by (with_reducible repeat (first | apply Kd.V_alloc | apply Kd.V_drewN | apply Kd.V_drew)); exact HO0.out) gb117 (Nat.le_of_eq hg.symm)) hb); have n1_ := Aside0.mk (blk_below (g := gb116) (o := .cells #[.slice none 0 0, .slice none 0 0, .bool false, .int .i64 0] 34 (0, 0)) (by (with_reducible repeat (first | refine blk_drewN ?_ _ | refine blk_drew ?_ | refine blk_alloc ?_ _)); exact BK116.out) hb); have n2_ := Aside0.mk (below_step (by repeat (first | (with_reducible first | exact HB.out | apply below_alloc | apply pw_below_drewN | apply below_drew1 | refine below_set ?_ GE116.out) | exact HB.out)) hb); have n3_ := Aside0.mk (hbox); have n4_ := Aside0.mk ((by rw [hg]; exact (below_size (by repeat (first | (with_reducible first | exact HB.out | apply below_alloc | apply pw_below_drewN | apply below_drew1 | refine below_set ?_ GE116.out) | exact HB.out))) : w.heap.size ≤ gb117)); have n5_ := Aside0.mk ((by rw [hg]; exact (below_size (by repeat (first | (with_reducible first | exact HB.out | apply below_alloc | apply pw_below_drewN | apply below_drew1 | refine below_set ?_ GE116.out) | exact HB.out))) : w.heap.size ≤ gb117)); have n6_ := Aside0.mk ((by rw [hg]; exact Nat.ne_of_lt (blk_lt (g := gb116) (o := .cells #[.slice none 0 0, .slice none 0 0, .bool false, .int .i64 0] 34 (0, 0)) (by (with_reducible repeat (first | refine blk_drewN ?_ _ | refine blk_drew ?_ | refine blk_alloc ?_ _)); exact BK116.out)) : gb116 ≠ gb117)); have n7_ := Aside0.mk ((by rw [hg]; exact Nat.ne_of_gt (blk_lt (g := gb116) (o := .cells #[.slice none 0 0, .slice none 0 0, .bool false, .int .i64 0] 34 (0, 0)) (by (with_reducible repeat (first | refine blk_drewN ?_ _ | refine blk_drew ?_ | refine blk_alloc ?_ _)); exact BK116.out)) : gb117 ≠ gb116)); clear HO0; clear BK116; clear HB; have HO0 := n0_; have BK116 := n1_; have HB := n2_; have BK117 := n3_; have GW117 := n4_; have GE117 := n5_; have NB116_117 := n6_; have NB117_116 := n7_; clear n0_ n1_ n2_ n3_ n4_ n5_ n6_ n7_; clear hb hbox hg; have hnb4 := NB117_116.out; have hnc4 := NB116_117.out; have hcz5_0 : w3.cell? ⟨gb117, 0, none⟩ = some (.slice none 0 0) := (blk_cell BK117.out 0).trans rfl; have hcz5_1 : w3.cell? ⟨gb117, 1, none⟩ = some (.slice none 0 0) := (blk_cell BK117.out 1).trans rfl; have hcz5_2 : w3.cell? ⟨gb117, 2, none⟩ = some (.bool false) := (blk_cell BK117.out 2).trans rfl; have hcz5_3 : w3.cell? ⟨gb117, 3, none⟩ = some (.int .i64 0) := (blk_cell BK117.out 3).trans rfl; have hfz5_0 := blk_frozen BK117.out 0; have hfz5_1 := blk_frozen BK117.out 1; have hfz5_2 := blk_frozen BK117.out 2; have hfz5_3 := blk_frozen BK117.out 3))
  go_loopg [0] k (fun kq v0 w' => ∃ (x0_1 : List Int) (x117002_1 : Bool) (x117003_1 : Int) (x118000_1 : List Int) (x118002_1 : Bool) (x118003_1 : Int) (u118000 : Value), Aside0 (halftoneref10_Of.l0 kq x0_1 x118000_1 x118002_1 x118003_1 = some (r1, r2, r3, r4)) ∧ Aside0 (kq ≤ k) ∧ Aside0 (Kd.V (Kd.int .u8) 5 w' w.heap.size (fun k_ => (P0_ k_ ∨ w.heap.size ≤ k_) ∧ some k_ ≠ (u118000 : Value).ownBlock ∧ k_ ≠ gb116 ∧ k_ ≠ gb117) v0 x0_1) ∧ Aside0 (Kd.R (Kd.int .u8) 5 w' w.heap.size (fun k_ => (w.heap.size ≤ k_)) u118000 x118000_1) ∧ Aside0 (w'.heap[gb116]? = some (.cells #[(.slice none 0 0), (.slice none 0 0), .bool x117002_1, .int .i64 x117003_1] 34 (0, 0))) ∧ Aside0 (w'.heap[gb117]? = some (.cells #[u118000, (.slice none 0 0), .bool x118002_1, .int .i64 x118003_1] 34 (0, 0))) ∧ Aside0 (Below w.heap.size w w'))
  case atStart => exact ⟨(l0), (false), (0), (([] : List Int)), (false), (0), (.slice none 0 0), H', ⟨Nat.le_refl _⟩, ⟨by (with_reducible repeat (first | apply Kd.V_alloc | apply Kd.V_drewN | apply Kd.V_drew)); exact Kd.V_mono (Kd.V_far (p := ⟨gb117, 3, none⟩) (Kd.V_far (p := ⟨gb117, 2, none⟩) (Kd.V_far (p := ⟨gb117, 1, none⟩) (Kd.V_far (p := ⟨gb117, 0, none⟩) (Kd.V_mono HO0.out (fun k_ hk => (⟨hk, hk.2⟩ : _ ∧ k_ ≠ gb117))) (fun _ hk => hk.2) (.slice none 0 0)) (fun _ hk => hk.2) (.slice none 0 0)) (fun _ hk => hk.2) (.bool false)) (fun _ hk => hk.2) (.int .i64 0)) (fun _ hk => ⟨hk.1.1.1, ⟨(by simp [Value.ownBlock]), ⟨hk.1.1.2, hk.1.2⟩⟩⟩)⟩, ⟨by first | exact Kd.R_nil _ _ _ _ _ | exact Kd.N_nil _ _ _ _ _ | exact Kd.V_nil _ _ _ _ _ | exact Kd.Q_nil _ _ _ _ _ | exact Kd.S_nil _ _ _ _ _⟩, ⟨by (with_reducible repeat (first | refine blk_drewN ?_ _ | refine blk_drew ?_ | refine blk_alloc ?_ _)); refine blk_far ?_ NB116_117.out _; (with_reducible repeat (first | refine blk_drewN ?_ _ | refine blk_drew ?_ | refine blk_alloc ?_ _)); refine blk_far ?_ NB116_117.out _; (with_reducible repeat (first | refine blk_drewN ?_ _ | refine blk_drew ?_ | refine blk_alloc ?_ _)); refine blk_far ?_ NB116_117.out _; (with_reducible repeat (first | refine blk_drewN ?_ _ | refine blk_drew ?_ | refine blk_alloc ?_ _)); refine blk_far ?_ NB116_117.out _; (with_reducible repeat (first | refine blk_drewN ?_ _ | refine blk_drew ?_ | refine blk_alloc ?_ _)); exact BK116.out⟩, ⟨by (with_reducible repeat (first | refine blk_drewN ?_ _ | refine blk_drew ?_ | refine blk_alloc ?_ _)); refine blk_put (cs := #[.slice none 0 0, .slice none 0 0, .bool false, .int .i64 0]) ?_ 3 _ rfl; (with_reducible repeat (first | refine blk_drewN ?_ _ | refine blk_drew ?_ | refine blk_alloc ?_ _)); refine blk_put (cs := #[.slice none 0 0, .slice none 0 0, .bool false, .int .i64 0]) ?_ 2 _ rfl; (with_reducible repeat (first | refine blk_drewN ?_ _ | refine blk_drew ?_ | refine blk_alloc ?_ _)); refine blk_put (cs := #[.slice none 0 0, .slice none 0 0, .bool false, .int .i64 0]) ?_ 1 _ rfl; (with_reducible repeat (first | refine blk_drewN ?_ _ | refine blk_drew ?_ | refine blk_alloc ?_ _)); refine blk_put (cs := #[.slice none 0 0, .slice none 0 0, .bool false, .int .i64 0]) ?_ 0 _ rfl; (with_reducible repeat (first | refine blk_drewN ?_ _ | refine blk_drew ?_ | refine blk_alloc ?_ _)); exact BK117.out⟩, ⟨by repeat (first | (with_reducible first | exact HB.out | apply below_alloc | apply pw_below_drewN | apply below_drew1 | refine below_set ?_ GE116.out | refine below_set ?_ GE117.out) | exact HB.out)⟩⟩
  case round =>
    clear H'
    try clear c1
    try clear p2
    try clear c4
    try clear hcz5_0
    try clear hcz5_1
    try clear hcz5_2
    try clear hcz5_3
    try clear hfz5_0
    try clear hfz5_1
    try clear hfz5_2
    try clear hfz5_3
    obtain ⟨x0_1, x117002_1, x117003_1, x118000_1, x118002_1, x118003_1, u118000, HA, HK1, HO_0, HO_118000, BK116, BK117, HB⟩ := hrel
    cases gk with
    | zero => exact absurd HA.out (by simp [halftoneref10_Of.l0])
    | succ k1 =>
      have H := HA.out
      clear HA
      simp only [halftoneref10_Of.l0] at H
      by_cases c6 : (x0_1.length : Int) > 0
      · rw [if_pos c6] at H
        have c6b0 : decide (0 < (x0_1.length : Int)) = true := decide_eq_true c6
        have c6b1 : decide (0 < x0_1.length) = true := decide_eq_true (by omega)
        clear c6
        by_cases c7 : 0 < (x0_1.length : Int)
        · rw [if_pos c7] at H
          have c7b0 : decide (0 < (x0_1.length : Int)) = true := decide_eq_true c7
          have c7b1 : decide (0 < x0_1.length) = true := decide_eq_true (by omega)
          clear c7
          by_cases c8 : 1 ≤ (x0_1.length : Int)
          · rw [if_pos c8] at H
            have c8b0 := eq_true c8
            have c8b1 : decide (1 ≤ (x0_1.length : Int)) = true := decide_eq_true c8
            clear c8
            obtain ⟨y119, hy119⟩ : ∃ y_ : List Int, y_ = (x0_1.drop 1) := ⟨_, rfl⟩
            replace H : (if (wrap64 (rd x0_1 0)) = 0 then ((some (([] : List Int) : List Int)).bind fun y124 => (if y124.length + y119.length < 140737488355328 then (some (x118000_1, (y124 ++ y119), true, wrap64 (x118003_1 + 1))) else (none))) else (if 0 ≤ (mn (wrap64 (rd x0_1 0)) (y119.length : Int)) then (if (mn (wrap64 (rd x0_1 0)) (y119.length : Int)) ≤ (y119.length : Int) then ((some (y119.take ((mn (wrap64 (rd x0_1 0)) (y119.length : Int)) : Int).toNat : List Int)).bind fun y130 => (if x118000_1.length + y130.length < 140737488355328 then (halftoneref10_Of.l0 k1 (y119.drop ((mn (wrap64 (rd x0_1 0)) (y119.length : Int)) : Int).toNat) (x118000_1 ++ y130) x118002_1 (wrap64 ((wrap64 (x118003_1 + 1)) + (mn (wrap64 (rd x0_1 0)) (y119.length : Int))))) else (none))) else (none)) else (none))) = some (r1, r2, r3, r4) := by first | (rw [hy119]; with_reducible exact H) | (have H2_ := (Option.bind_some _ _).symm.trans H; rw [hy119]; with_reducible exact H2_) | (have H2_ := (Option.bind_some _ _).symm.trans H; with_reducible exact H2_) | with_reducible exact H | (rw [hy119]; exact H) | exact H
            have Ny119 := Aside0.mk hy119
            clear hy119
            by_cases c9 : (wrap64 (rd x0_1 0)) = 0
            · rw [if_pos c9] at H
              have c9b0 : ((wrap64 (rd x0_1 0)) == 0) = true := beq_iff_eq.mpr c9
              have c9b1 : ((wrap64 (rd x0_1 0)) != 0) = false := bne_eq_false_iff_eq.mpr c9
              clear c9
              obtain ⟨y124, hy124⟩ : ∃ y_ : List Int, y_ = (([] : List Int)) := ⟨_, rfl⟩
              replace H : (if y124.length + y119.length < 140737488355328 then (some (x118000_1, (y124 ++ y119), true, wrap64 (x118003_1 + 1))) else (none)) = some (r1, r2, r3, r4) := by first | (rw [hy124]; with_reducible exact H) | (have H2_ := (Option.bind_some _ _).symm.trans H; rw [hy124]; with_reducible exact H2_) | (have H2_ := (Option.bind_some _ _).symm.trans H; with_reducible exact H2_) | with_reducible exact H | (rw [hy124]; exact H) | exact H
              have Ny124 := Aside0.mk hy124
              clear hy124
              by_cases c10 : y124.length + y119.length < 140737488355328
              · rw [if_pos c10] at H
                have LMc10 := Aside0.mk c10
                clear c10
                obtain ⟨y127, hy127⟩ : ∃ y_ : List Int, y_ = (y124 ++ y119) := ⟨_, rfl⟩
                replace H : (some (x118000_1, y127, true, wrap64 (x118003_1 + 1))) = some (r1, r2, r3, r4) := by first | (rw [hy127]; with_reducible exact H) | (have H2_ := (Option.bind_some _ _).symm.trans H; rw [hy127]; with_reducible exact H2_) | (have H2_ := (Option.bind_some _ _).symm.trans H; with_reducible exact H2_) | with_reducible exact H | (rw [hy127]; exact H) | exact H
                have Ny127 := Aside0.mk hy127
                clear hy127
                simp only [Option.some.injEq, Prod.mk.injEq] at H
                obtain ⟨rfl, rfl, rfl, rfl⟩ := H
                obtain ⟨Ao11, co11, eo11⟩ := Kd.V_slice HO_0.out
                subst eo11
                have p118 : 0 ≤ (0 : Int) := (by omega)
                have q118 : 0 < (x0_1.length : Int) := of_decide_eq_true (by first | (with_reducible assumption) | assumption)
                obtain ⟨ad118, e118, hx118_0⟩ := Kd.at_int (Kd.V_reads' HO_0.out).2.2 0 p118 q118
                cases e118
                have qi118 : (0 < x0_1.length) = True := eq_true (by omega)
                (try rw [show ((0 : Int)).toNat = 0 from rfl] at hx118_0)
                (try rw [Addr.add_zero'] at hx118_0)
                replace p118 := eq_true p118
                replace q118 := eq_true q118
                have q12 : (1 : Int) ≤ ((x0_1.length : Int) : Int) := of_decide_eq_true (by first | (with_reducible assumption) | assumption)
                obtain ⟨i012, hi012, _, hsz12, _⟩ := info_parts info5
                have hroom12 : x0_1.length ≤ co11 := (Kd.V_reads' HO_0.out).2.1
                have hC12 : Kd.F (Kd.int .u8) _ _ (some ad118) x0_1.length x0_1 := (Kd.V_at (base := w.heap.size) HO_0.out).2.2
                have hcut12 := cut_from (P := Try.prog) 22 5 .i64 Try.underlying22 hi012 1 hsz12 (some ad118) x0_1.length co11 1 (by omega) q12
                have hr12 := Kd.F_cut (m := (1 : Int).toNat) (c := co11) hC12 (by omega) hroom12
                obtain ⟨A12, hA12⟩ : ∃ A1, A1 = (if co11 = (1 : Int).toNat then (some ad118) else ((some ad118) : Option Addr).map (·.add ((1 : Int).toNat * 1))) := ⟨_, rfl⟩
                obtain ⟨c12, hc12⟩ : ∃ c1, c1 = co11 - (1 : Int).toNat := ⟨_, rfl⟩
                have hy12 : y119.length = x0_1.length - (1 : Int).toNat := (by rw [Ny119.out, List.length_drop] <;> omega)
                rw [show (x0_1).drop (1 : Int).toNat = y119 from Ny119.out.symm] at hr12
                replace hr12 : Kd.F (Kd.int .u8) _ _ A12 y119.length y119 := (by rw [hA12]; exact hr12)
                rw [← hy12, ← hA12, ← hc12] at hcut12
                have HO123 := Aside0.mk (show Kd.V (Kd.int .u8) 5 _ w.heap.size _ (.slice A12 y119.length c12) y119 from Kd.V_mk (by rw [hy12, hc12]; exact Nat.sub_le_sub_right hroom12 _) hr12)
                have HC123 := Aside0.mk (show y119.length ≤ c12 from by rw [hy12, hc12]; exact Nat.sub_le_sub_right hroom12 _)
                clear hr12 hC12 hroom12 hi012 hsz12 hc12
                have KY12 := Aside0.mk hy12
                have KA12 := Aside0.mk hA12
                clear hy12 hA12
                replace q12 := eq_true q12
                have hnb13 := NB117_116.out
                have hnc13 := NB116_117.out
                have hcz14_0 : wr.cell? ⟨gb117, 0, none⟩ = some (u118000) := (blk_cell BK117.out 0).trans rfl
                have hcz14_1 : wr.cell? ⟨gb117, 1, none⟩ = some (.slice none 0 0) := (blk_cell BK117.out 1).trans rfl
                have hcz14_2 : wr.cell? ⟨gb117, 2, none⟩ = some (.bool x118002_1) := (blk_cell BK117.out 2).trans rfl
                have hcz14_3 : wr.cell? ⟨gb117, 3, none⟩ = some (.int .i64 x118003_1) := (blk_cell BK117.out 3).trans rfl
                have hfz14_0 := blk_frozen BK117.out 0
                have hfz14_1 := blk_frozen BK117.out 1
                have hfz14_2 := blk_frozen BK117.out 2
                have hfz14_3 := blk_frozen BK117.out 3
                go_wp2_with (first | ((with_reducible refine gate_dst (N := 22) rfl ?_); refine Kd.R_lit (Kd.int .u8) _ 5 ?hg (N := 22) ?hd (xs := ([] : List Int)) (inner := []) (ok := fun _ => True) (okp := fun _ => True) ?hr ?hp (fun _ hk => hk) trivial (Below.refl _ _) (Nat.le_refl _) (by simp) ?_; (case hd => rfl); (case hg => rfl); (case hr => first | (go_simp; done) | (go_simp; rfl)); (case hp => exact (Reps.none _ _)); intro v125 w15 ho16 hb hg_ hnew_; clear hg_ hnew_; (first | rw [← Ny124.out] at ho16 | (simp only [Int.reduceToNat] at ho16; rw [← Ny124.out] at ho16)); have n0_ := Aside0.mk (Kd.V_elder' (by (with_reducible repeat (first | apply Kd.V_alloc | apply Kd.V_drewN | apply Kd.V_drew)); exact (Kd.V_mono (Kd.V_far (p := ⟨gb117, 2, none⟩) (Kd.V_far (p := ⟨gb117, 3, none⟩) (Kd.V_mono HO_0.out (fun k_ hk => (⟨hk, hk.2.2.2⟩ : _ ∧ k_ ≠ gb117))) (fun _ hk => hk.2) (.int .i64 (wrap64 (x118003_1 + 1)))) (fun _ hk => hk.2) (.bool true)) (fun _ h_ => h_.1))) (Kd.R_base ho16) hb); have n1_ := Aside0.mk (Kd.R_elder' (by (with_reducible repeat (first | apply Kd.R_alloc | apply Kd.R_drewN | apply Kd.R_drew)); exact (Kd.R_mono (Kd.R_far (p := ⟨gb117, 2, none⟩) (Kd.R_far (p := ⟨gb117, 3, none⟩) (Kd.R_types HO_118000.out BK117.out (by decide)) (fun _ hk => hk.2) (.int .i64 (wrap64 (x118003_1 + 1)))) (fun _ hk => hk.2) (.bool true)) (fun _ h_ => h_.1))) (Kd.R_base ho16) hb); have n2_ := Aside0.mk (Kd.V_elder' (by (with_reducible repeat (first | apply Kd.V_alloc | apply Kd.V_drewN | apply Kd.V_drew)); exact (Kd.V_mono (Kd.V_far (p := ⟨gb117, 2, none⟩) (Kd.V_far (p := ⟨gb117, 3, none⟩) (Kd.V_mono HO123.out (fun k_ hk => (⟨hk, hk.2.2.2⟩ : _ ∧ k_ ≠ gb117))) (fun _ hk => hk.2) (.int .i64 (wrap64 (x118003_1 + 1)))) (fun _ hk => hk.2) (.bool true)) (fun _ h_ => h_.1))) (Kd.R_base ho16) hb); have n3_ := Aside0.mk (Kd.R_lower (Kd.R_new' (Kd.R_newM (M := fun k_ => (w.heap.size ≤ k_)) ho16 (below_size (by repeat (first | (with_reducible first | exact HB.out | apply below_alloc | apply pw_below_drewN | apply below_drew1 | refine below_set ?_ GE116.out | refine below_set ?_ GE117.out) | exact HB.out))) (fun k_ h_ => h_)) (Kd.R_lt (by (with_reducible repeat (first | apply Kd.R_alloc | apply Kd.R_drewN | apply Kd.R_drew)); exact (Kd.R_mono (Kd.R_far (p := ⟨gb117, 2, none⟩) (Kd.R_far (p := ⟨gb117, 3, none⟩) (Kd.R_types HO_118000.out BK117.out (by decide)) (fun _ hk => hk.2) (.int .i64 (wrap64 (x118003_1 + 1)))) (fun _ hk => hk.2) (.bool true)) (fun _ h_ => h_.1))))) (below_size (by repeat (first | (with_reducible first | exact HB.out | apply below_alloc | apply pw_below_drewN | apply below_drew1 | refine below_set ?_ GE116.out | refine below_set ?_ GE117.out) | exact HB.out)))); have n4_ := Aside0.mk (blk_below (g := gb116) (o := .cells #[.slice none 0 0, .slice none 0 0, .bool x117002_1, .int .i64 x117003_1] 34 (0, 0)) (by (with_reducible repeat (first | refine blk_drewN ?_ _ | refine blk_drew ?_ | refine blk_alloc ?_ _)); refine blk_far ?_ NB116_117.out _; (with_reducible repeat (first | refine blk_drewN ?_ _ | refine blk_drew ?_ | refine blk_alloc ?_ _)); refine blk_far ?_ NB116_117.out _; (with_reducible repeat (first | refine blk_drewN ?_ _ | refine blk_drew ?_ | refine blk_alloc ?_ _)); exact BK116.out) hb); have n5_ := Aside0.mk (blk_below (g := gb117) (o := .cells #[u118000, .slice none 0 0, .bool true, .int .i64 (wrap64 (x118003_1 + 1))] 34 (0, 0)) (by (with_reducible repeat (first | refine blk_drewN ?_ _ | refine blk_drew ?_ | refine blk_alloc ?_ _)); refine blk_put (cs := #[u118000, .slice none 0 0, .bool x118002_1, .int .i64 (wrap64 (x118003_1 + 1))]) ?_ 2 _ rfl; (with_reducible repeat (first | refine blk_drewN ?_ _ | refine blk_drew ?_ | refine blk_alloc ?_ _)); refine blk_put (cs := #[u118000, .slice none 0 0, .bool x118002_1, .int .i64 x118003_1]) ?_ 3 _ rfl; (with_reducible repeat (first | refine blk_drewN ?_ _ | refine blk_drew ?_ | refine blk_alloc ?_ _)); exact BK117.out) hb); have n6_ := Aside0.mk (below_step (by repeat (first | (with_reducible first | exact HB.out | apply below_alloc | apply pw_below_drewN | apply below_drew1 | refine below_set ?_ GE116.out | refine below_set ?_ GE117.out) | exact HB.out)) hb); clear HO_0; clear HO_118000; clear HO123; clear BK116; clear BK117; clear HB; have HO_0 := n0_; have HO_118000 := n1_; have HO123 := n2_; have HO126 := n3_; have BK116 := n4_; have BK117 := n5_; have HB := n6_; clear n0_ n1_ n2_ n3_ n4_ n5_ n6_; clear hb ho16) | ((with_reducible refine gate_builtin (b := .append) (xs := #[.tmp 22, .tmp 23]) rfl ?_); at_builtin; refine Kd.R_append_rows (Kd.int .u8) (w0 := w) w.heap.size rfl (.tmp 22) (.tmp 23) 22 5 (.int .u8 0) 1 rfl Try.underlying22 info5 rfl (by decide) (by omega) v125 y124 y119 _ _ _ (fun k_ => (w.heap.size ≤ k_) ∧ some k_ ≠ (u118000 : Value).ownBlock) (fun _ => False) rfl rfl ?aO ?aR (fun _ _ h => h) (fun _ h => h.elim) ?aF ?aB ?aS ?aL ?_; (case aR => repeat (first | exact (Kd.V_reads' HO123.out).2.2 | (with_reducible refine Kd.C_alloc ?_ _) | (with_reducible refine Kd.C_drewN ?_ _) | (with_reducible refine Kd.C_drew ?_))); (case aB => exact (by repeat (first | (with_reducible first | exact HB.out | apply below_alloc | apply pw_below_drewN | apply below_drew1 | refine below_set ?_ GE116.out | refine below_set ?_ GE117.out) | exact HB.out))); (case aF => exact (fun k_ hk => ⟨(Nat.le_trans (below_size (by repeat (first | (with_reducible first | exact HB.out | apply below_alloc | apply pw_below_drewN | apply below_drew1 | refine below_set ?_ GE116.out | refine below_set ?_ GE117.out) | exact HB.out))) hk), Kd.fresh' (Kd.R_lt (by (with_reducible repeat (first | apply Kd.R_alloc | apply Kd.R_drewN | apply Kd.R_drew)); exact HO_118000.out)) k_ hk⟩)); (case aO => exact (by (with_reducible repeat (first | apply Kd.R_alloc | apply Kd.R_drewN | apply Kd.R_drew)); exact Kd.R_mono HO126.out (fun _ hk => ⟨hk.1.1, hk.2⟩))); (case aS => exact (below_size (by repeat (first | (with_reducible first | exact HB.out | apply below_alloc | apply pw_below_drewN | apply below_drew1 | refine below_set ?_ GE116.out | refine below_set ?_ GE117.out) | exact HB.out)))); (case aL => have := LMc10.out; omega); intro v128 w17 ho hb hg hat; rw [← Ny127.out] at ho; have n0_ := Aside0.mk (Kd.V_afterv (ok := (fun k_ => (P0_ k_ ∨ w.heap.size ≤ k_) ∧ some k_ ≠ (u118000 : Value).ownBlock ∧ k_ ≠ gb116 ∧ k_ ≠ gb117)) (by (with_reducible repeat (first | apply Kd.V_alloc | apply Kd.V_drewN | apply Kd.V_drew)); exact HO_0.out) hg hat); have n1_ := Aside0.mk (Kd.R_after (ok := (fun k_ => (w.heap.size ≤ k_))) (by (with_reducible repeat (first | apply Kd.R_alloc | apply Kd.R_drewN | apply Kd.R_drew)); exact HO_118000.out) hg hat); have n2_ := Aside0.mk (blk_grown (g := gb116) (o := .cells #[.slice none 0 0, .slice none 0 0, .bool x117002_1, .int .i64 x117003_1] 34 (0, 0)) (by (with_reducible repeat (first | refine blk_drewN ?_ _ | refine blk_drew ?_ | refine blk_alloc ?_ _)); exact BK116.out) hg (Kd.R_ne HO126.out BK116.out (by decide))); have n3_ := Aside0.mk (blk_grown (g := gb117) (o := .cells #[u118000, .slice none 0 0, .bool true, .int .i64 (wrap64 (x118003_1 + 1))] 34 (0, 0)) (by (with_reducible repeat (first | refine blk_drewN ?_ _ | refine blk_drew ?_ | refine blk_alloc ?_ _)); exact BK117.out) hg (Kd.R_ne HO126.out BK117.out (by decide))); have n4_ := Aside0.mk (Kd.V_afterv (ok := (fun k_ => (P0_ k_ ∨ w.heap.size ≤ k_) ∧ some k_ ≠ (u118000 : Value).ownBlock ∧ k_ ≠ gb116 ∧ k_ ≠ gb117)) (by (with_reducible repeat (first | apply Kd.V_alloc | apply Kd.V_drewN | apply Kd.V_drew)); exact HO123.out) hg hat); have n5_ := Aside0.mk (hb); have n6_ := Aside0.mk (ho); clear HO_0; clear HO_118000; clear BK116; clear BK117; clear HO123; clear HB; clear HO126; have HO_0 := n0_; have HO_118000 := n1_; have BK116 := n2_; have BK117 := n3_; have HO123 := n4_; have HB := n5_; have HO129 := n6_; clear n0_ n1_ n2_ n3_ n4_ n5_ n6_; clear ho hb hg hat; obtain ⟨Ao18, co18, eo18⟩ := Kd.R_slice HO129.out; subst eo18; have hcz19_0 : w17.cell? ⟨gb117, 0, none⟩ = some (u118000) := (blk_cell BK117.out 0).trans rfl; have hcz19_1 : w17.cell? ⟨gb117, 1, none⟩ = some (.slice none 0 0) := (blk_cell BK117.out 1).trans rfl; have hcz19_2 : w17.cell? ⟨gb117, 2, none⟩ = some (.bool true) := (blk_cell BK117.out 2).trans rfl; have hcz19_3 : w17.cell? ⟨gb117, 3, none⟩ = some (.int .i64 (wrap64 (x118003_1 + 1))) := (blk_cell BK117.out 3).trans rfl; have hfz19_0 := blk_frozen BK117.out 0; have hfz19_1 := blk_frozen BK117.out 1; have hfz19_2 := blk_frozen BK117.out 2; have hfz19_3 := blk_frozen BK117.out 3; obtain ⟨Ao20, co20, eo20⟩ := Kd.R_slice HO_118000.out; subst eo20; have hcz21_0 : w17.cell? ⟨gb116, 0, none⟩ = some (.slice none 0 0) := (blk_cell BK116.out 0).trans rfl; have hcz21_1 : w17.cell? ⟨gb116, 1, none⟩ = some (.slice none 0 0) := (blk_cell BK116.out 1).trans rfl; have hcz21_2 : w17.cell? ⟨gb116, 2, none⟩ = some (.bool x117002_1) := (blk_cell BK116.out 2).trans rfl; have hcz21_3 : w17.cell? ⟨gb116, 3, none⟩ = some (.int .i64 x117003_1) := (blk_cell BK116.out 3).trans rfl; have hfz21_0 := blk_frozen BK116.out 0; have hfz21_1 := blk_frozen BK116.out 1; have hfz21_2 := blk_frozen BK116.out 2; have hfz21_3 := blk_frozen BK116.out 3))
                refine bodyPost_ret (results_cell_row rfl _ _ gb116 34 #[.slice Ao20 x118000_1.length co20, .slice Ao18 y127.length co18, .bool true, .int .i64 (wrap64 (x118003_1 + 1))] (0, 0) _ rfl (by (with_reducible repeat (first | refine blk_drewN ?_ _ | refine blk_drew ?_ | refine blk_alloc ?_ _)); refine blk_put (cs := #[.slice Ao20 x118000_1.length co20, .slice Ao18 y127.length co18, .bool true, .int .i64 x117003_1]) ?_ 3 _ rfl; (with_reducible repeat (first | refine blk_drewN ?_ _ | refine blk_drew ?_ | refine blk_alloc ?_ _)); refine blk_put (cs := #[.slice Ao20 x118000_1.length co20, .slice Ao18 y127.length co18, .bool x117002_1, .int .i64 x117003_1]) ?_ 2 _ rfl; (with_reducible repeat (first | refine blk_drewN ?_ _ | refine blk_drew ?_ | refine blk_alloc ?_ _)); refine blk_put (cs := #[.slice Ao20 x118000_1.length co20, .slice none 0 0, .bool x117002_1, .int .i64 x117003_1]) ?_ 1 _ rfl; (with_reducible repeat (first | refine blk_drewN ?_ _ | refine blk_drew ?_ | refine blk_alloc ?_ _)); refine blk_put (cs := #[.slice none 0 0, .slice none 0 0, .bool x117002_1, .int .i64 x117003_1]) ?_ 0 _ rfl; (with_reducible repeat (first | refine blk_drewN ?_ _ | refine blk_drew ?_ | refine blk_alloc ?_ _)); refine blk_far ?_ NB116_117.out _; (with_reducible repeat (first | refine blk_drewN ?_ _ | refine blk_drew ?_ | refine blk_alloc ?_ _)); exact BK116.out) Try.underlying34 rfl (by kernel_rfl)) rfl ?_
                exact ⟨_, _, by first | rfl | (simp [errW_none, errW_some] <;> rfl) | (simp [*, errW_none, errW_some] <;> rfl), by (with_reducible repeat (first | apply Kd.R_alloc | apply Kd.R_drewN | apply Kd.R_drew)); exact Kd.R_mono (Kd.R_far (p := ⟨gb116, 3, none⟩) (Kd.R_far (p := ⟨gb116, 2, none⟩) (Kd.R_far (p := ⟨gb116, 1, none⟩) (Kd.R_far (p := ⟨gb116, 0, none⟩) (Kd.R_far (p := ⟨gb117, 1, none⟩) (Kd.R_types (Kd.R_types HO_118000.out BK117.out (by decide)) BK116.out (by decide)) (fun _ hk => hk.1.2) (.slice Ao18 y127.length co18)) (fun _ hk => hk.2) (.slice Ao20 x118000_1.length co20)) (fun _ hk => hk.2) (.slice Ao18 y127.length co18)) (fun _ hk => hk.2) (.bool true)) (fun _ hk => hk.2) (.int .i64 (wrap64 (x118003_1 + 1)))) (fun _ hk => ⟨hk.1.1.1, hk.1.1.2⟩), by (with_reducible repeat (first | apply Kd.R_alloc | apply Kd.R_drewN | apply Kd.R_drew)); exact Kd.R_mono (Kd.R_far (p := ⟨gb116, 3, none⟩) (Kd.R_far (p := ⟨gb116, 2, none⟩) (Kd.R_far (p := ⟨gb116, 1, none⟩) (Kd.R_far (p := ⟨gb116, 0, none⟩) (Kd.R_far (p := ⟨gb117, 1, none⟩) (Kd.R_types (Kd.R_types HO129.out BK117.out (by decide)) BK116.out (by decide)) (fun _ hk => hk.1.2) (.slice Ao18 y127.length co18)) (fun _ hk => hk.2) (.slice Ao20 x118000_1.length co20)) (fun _ hk => hk.2) (.slice Ao18 y127.length co18)) (fun _ hk => hk.2) (.bool true)) (fun _ hk => hk.2) (.int .i64 (wrap64 (x118003_1 + 1)))) (fun _ hk => ⟨hk.1.1.1, hk.1.1.2⟩), by repeat (first | (with_reducible first | exact HB.out | apply below_alloc | apply pw_below_drewN | apply below_drew1 | refine below_set ?_ GE116.out | refine below_set ?_ GE117.out) | exact HB.out)⟩
              · rw [if_neg c10] at H
                exact absurd H (by simp)
            · rw [if_neg c9] at H
              have c9b0 : ((wrap64 (rd x0_1 0)) == 0) = false := beq_eq_false_iff_ne.mpr c9
              have c9b1 : ((wrap64 (rd x0_1 0)) != 0) = true := bne_iff_ne.mpr c9
              obtain ⟨ji22, hji22⟩ : ∃ j_ : Int, (mn (wrap64 (rd x0_1 0)) (y119.length : Int)) = j_ := ⟨_, rfl⟩
              replace H : (if 0 ≤ (ji22) then (if (ji22) ≤ (y119.length : Int) then ((some (y119.take ((ji22) : Int).toNat : List Int)).bind fun y130 => (if x118000_1.length + y130.length < 140737488355328 then (halftoneref10_Of.l0 k1 (y119.drop ((ji22) : Int).toNat) (x118000_1 ++ y130) x118002_1 (wrap64 ((wrap64 (x118003_1 + 1)) + (ji22)))) else (none))) else (none)) else (none)) = some (r1, r2, r3, r4) := by first | (rw [hji22] at H; exact H) | (simp only [hji22] at H ⊢; exact H)
              have hji22_ : (if (y119.length : Int) < (wrap64 (rd x0_1 0)) then (y119.length : Int) else (wrap64 (rd x0_1 0))) = ji22 := hji22
              by_cases c23 : 0 ≤ (ji22)
              · rw [if_pos c23] at H
                have c23b0 := eq_true c23
                have c23b1 : decide (0 ≤ (ji22)) = true := decide_eq_true c23
                clear c23
                by_cases c24 : (ji22) ≤ (y119.length : Int)
                · rw [if_pos c24] at H
                  have c24b0 := eq_true c24
                  have c24b1 : decide ((ji22) ≤ (y119.length : Int)) = true := decide_eq_true c24
                  clear c24
                  obtain ⟨y130, hy130⟩ : ∃ y_ : List Int, y_ = (y119.take ((ji22) : Int).toNat) := ⟨_, rfl⟩
                  replace H : (if x118000_1.length + y130.length < 140737488355328 then (halftoneref10_Of.l0 k1 (y119.drop ((ji22) : Int).toNat) (x118000_1 ++ y130) x118002_1 (wrap64 ((wrap64 (x118003_1 + 1)) + (ji22)))) else (none)) = some (r1, r2, r3, r4) := by first | (rw [hy130]; with_reducible exact H) | (have H2_ := (Option.bind_some _ _).symm.trans H; rw [hy130]; with_reducible exact H2_) | (have H2_ := (Option.bind_some _ _).symm.trans H; with_reducible exact H2_) | with_reducible exact H | (rw [hy130]; exact H) | exact H
                  have Ny130 := Aside0.mk hy130
                  clear hy130
                  by_cases c25 : x118000_1.length + y130.length < 140737488355328
                  · rw [if_pos c25] at H
                    have LMc25 := Aside0.mk c25
                    clear c25
                    obtain ⟨y135, hy135⟩ : ∃ y_ : List Int, y_ = (x118000_1 ++ y130) := ⟨_, rfl⟩
                    replace H : (halftoneref10_Of.l0 k1 (y119.drop ((ji22) : Int).toNat) y135 x118002_1 (wrap64 ((wrap64 (x118003_1 + 1)) + (ji22)))) = some (r1, r2, r3, r4) := by first | (rw [hy135]; with_reducible exact H) | (have H2_ := (Option.bind_some _ _).symm.trans H; rw [hy135]; with_reducible exact H2_) | (have H2_ := (Option.bind_some _ _).symm.trans H; with_reducible exact H2_) | with_reducible exact H | (rw [hy135]; exact H) | exact H
                    have Ny135 := Aside0.mk hy135
                    clear hy135
                    have c26b0 := eq_true (of_decide_eq_true (by first | (with_reducible assumption) | assumption) : 0 ≤ (ji22))
                    have c27b0 := eq_true (of_decide_eq_true (by first | (with_reducible assumption) | assumption) : (ji22) ≤ (y119.length : Int))
                    obtain ⟨y138, hy138⟩ : ∃ y_ : List Int, y_ = (y119.drop ((ji22) : Int).toNat) := ⟨_, rfl⟩
                    replace H : (halftoneref10_Of.l0 k1 y138 y135 x118002_1 (wrap64 ((wrap64 (x118003_1 + 1)) + (ji22)))) = some (r1, r2, r3, r4) := by first | (rw [hy138]; with_reducible exact H) | (have H2_ := (Option.bind_some _ _).symm.trans H; rw [hy138]; with_reducible exact H2_) | (have H2_ := (Option.bind_some _ _).symm.trans H; with_reducible exact H2_) | with_reducible exact H | (rw [hy138]; exact H) | exact H
                    have Ny138 := Aside0.mk hy138
                    clear hy138
                    have H' := Aside0.mk H
                    clear H
                    obtain ⟨Ao28, co28, eo28⟩ := Kd.V_slice HO_0.out
                    subst eo28
                    have p118 : 0 ≤ (0 : Int) := (by omega)
                    have q118 : 0 < (x0_1.length : Int) := of_decide_eq_true (by first | (with_reducible assumption) | assumption)
                    obtain ⟨ad118, e118, hx118_0⟩ := Kd.at_int (Kd.V_reads' HO_0.out).2.2 0 p118 q118
                    cases e118
                    have qi118 : (0 < x0_1.length) = True := eq_true (by omega)
                    (try rw [show ((0 : Int)).toNat = 0 from rfl] at hx118_0)
                    (try rw [Addr.add_zero'] at hx118_0)
                    replace p118 := eq_true p118
                    replace q118 := eq_true q118
                    have q29 : (1 : Int) ≤ ((x0_1.length : Int) : Int) := of_decide_eq_true (by first | (with_reducible assumption) | assumption)
                    obtain ⟨i029, hi029, _, hsz29, _⟩ := info_parts info5
                    have hroom29 : x0_1.length ≤ co28 := (Kd.V_reads' HO_0.out).2.1
                    have hC29 : Kd.F (Kd.int .u8) _ _ (some ad118) x0_1.length x0_1 := (Kd.V_at (base := w.heap.size) HO_0.out).2.2
                    have hcut29 := cut_from (P := Try.prog) 22 5 .i64 Try.underlying22 hi029 1 hsz29 (some ad118) x0_1.length co28 1 (by omega) q29
                    have hr29 := Kd.F_cut (m := (1 : Int).toNat) (c := co28) hC29 (by omega) hroom29
                    obtain ⟨A29, hA29⟩ : ∃ A1, A1 = (if co28 = (1 : Int).toNat then (some ad118) else ((some ad118) : Option Addr).map (·.add ((1 : Int).toNat * 1))) := ⟨_, rfl⟩
                    obtain ⟨c29, hc29⟩ : ∃ c1, c1 = co28 - (1 : Int).toNat := ⟨_, rfl⟩
                    have hy29 : y119.length = x0_1.length - (1 : Int).toNat := (by rw [Ny119.out, List.length_drop] <;> omega)
                    rw [show (x0_1).drop (1 : Int).toNat = y119 from Ny119.out.symm] at hr29
                    replace hr29 : Kd.F (Kd.int .u8) _ _ A29 y119.length y119 := (by rw [hA29]; exact hr29)
                    rw [← hy29, ← hA29, ← hc29] at hcut29
                    have HO123 := Aside0.mk (show Kd.V (Kd.int .u8) 5 _ w.heap.size _ (.slice A29 y119.length c29) y119 from Kd.V_mk (by rw [hy29, hc29]; exact Nat.sub_le_sub_right hroom29 _) hr29)
                    have HC123 := Aside0.mk (show y119.length ≤ c29 from by rw [hy29, hc29]; exact Nat.sub_le_sub_right hroom29 _)
                    clear hr29 hC29 hroom29 hi029 hsz29 hc29
                    have KY29 := Aside0.mk hy29
                    have KA29 := Aside0.mk hA29
                    clear hy29 hA29
                    replace q29 := eq_true q29
                    have hnb30 := NB117_116.out
                    have hnc30 := NB116_117.out
                    have hcz31_0 : wr.cell? ⟨gb117, 0, none⟩ = some (u118000) := (blk_cell BK117.out 0).trans rfl
                    have hcz31_1 : wr.cell? ⟨gb117, 1, none⟩ = some (.slice none 0 0) := (blk_cell BK117.out 1).trans rfl
                    have hcz31_2 : wr.cell? ⟨gb117, 2, none⟩ = some (.bool x118002_1) := (blk_cell BK117.out 2).trans rfl
                    have hcz31_3 : wr.cell? ⟨gb117, 3, none⟩ = some (.int .i64 x118003_1) := (blk_cell BK117.out 3).trans rfl
                    have hfz31_0 := blk_frozen BK117.out 0
                    have hfz31_1 := blk_frozen BK117.out 1
                    have hfz31_2 := blk_frozen BK117.out 2
                    have hfz31_3 := blk_frozen BK117.out 3
                    try go_wp2
                    have n0_ : Aside0 (Kd.V (Kd.int .u8) 5 (wr.setCell ⟨gb117, 3, none⟩ (.int .i64 (wrap64 (x118003_1 + 1)))) w.heap.size (fun k_ => (P0_ k_ ∨ w.heap.size ≤ k_) ∧ some k_ ≠ (u118000 : Value).ownBlock ∧ k_ ≠ gb116 ∧ k_ ≠ gb117) (.slice (some ad118) x0_1.length co28) x0_1) := ⟨by (with_reducible repeat (first | apply Kd.V_alloc | apply Kd.V_drewN | apply Kd.V_drew)); exact Kd.V_mono (Kd.V_far (p := ⟨gb117, 3, none⟩) (Kd.V_mono HO_0.out (fun k_ hk => (⟨hk, hk.2.2.2⟩ : _ ∧ k_ ≠ gb117))) (fun _ hk => hk.2) (.int .i64 (wrap64 (x118003_1 + 1)))) (fun _ hk => ⟨hk.1.1, ⟨hk.1.2.1, ⟨hk.1.2.2.1, hk.1.2.2.2⟩⟩⟩)⟩
                    have n1_ : Aside0 (Kd.R (Kd.int .u8) 5 (wr.setCell ⟨gb117, 3, none⟩ (.int .i64 (wrap64 (x118003_1 + 1)))) w.heap.size (fun k_ => (w.heap.size ≤ k_)) u118000 x118000_1) := ⟨by (with_reducible repeat (first | apply Kd.R_alloc | apply Kd.R_drewN | apply Kd.R_drew)); exact Kd.R_mono (Kd.R_far (p := ⟨gb117, 3, none⟩) (Kd.R_types HO_118000.out BK117.out (by decide)) (fun _ hk => hk.2) (.int .i64 (wrap64 (x118003_1 + 1)))) (fun _ hk => hk.1)⟩
                    have n2_ : Aside0 (Kd.V (Kd.int .u8) 5 (wr.setCell ⟨gb117, 3, none⟩ (.int .i64 (wrap64 (x118003_1 + 1)))) w.heap.size (fun k_ => (P0_ k_ ∨ w.heap.size ≤ k_) ∧ some k_ ≠ (u118000 : Value).ownBlock ∧ k_ ≠ gb116 ∧ k_ ≠ gb117) (.slice A29 y119.length c29) y119) := ⟨by (with_reducible repeat (first | apply Kd.V_alloc | apply Kd.V_drewN | apply Kd.V_drew)); exact Kd.V_mono (Kd.V_far (p := ⟨gb117, 3, none⟩) (Kd.V_mono HO123.out (fun k_ hk => (⟨hk, hk.2.2.2⟩ : _ ∧ k_ ≠ gb117))) (fun _ hk => hk.2) (.int .i64 (wrap64 (x118003_1 + 1)))) (fun _ hk => ⟨hk.1.1, ⟨hk.1.2.1, ⟨hk.1.2.2.1, hk.1.2.2.2⟩⟩⟩)⟩
                    have n3_ : Aside0 ((wr.setCell ⟨gb117, 3, none⟩ (.int .i64 (wrap64 (x118003_1 + 1)))).heap[gb116]? = some (.cells #[.slice none 0 0, .slice none 0 0, .bool x117002_1, .int .i64 x117003_1] 34 (0, 0))) := ⟨by (with_reducible repeat (first | refine blk_drewN ?_ _ | refine blk_drew ?_ | refine blk_alloc ?_ _)); refine blk_far ?_ NB116_117.out _; (with_reducible repeat (first | refine blk_drewN ?_ _ | refine blk_drew ?_ | refine blk_alloc ?_ _)); exact BK116.out⟩
                    have n4_ : Aside0 ((wr.setCell ⟨gb117, 3, none⟩ (.int .i64 (wrap64 (x118003_1 + 1)))).heap[gb117]? = some (.cells #[u118000, .slice none 0 0, .bool x118002_1, .int .i64 (wrap64 (x118003_1 + 1))] 34 (0, 0))) := ⟨by (with_reducible repeat (first | refine blk_drewN ?_ _ | refine blk_drew ?_ | refine blk_alloc ?_ _)); refine blk_put (cs := #[u118000, .slice none 0 0, .bool x118002_1, .int .i64 x118003_1]) ?_ 3 _ rfl; (with_reducible repeat (first | refine blk_drewN ?_ _ | refine blk_drew ?_ | refine blk_alloc ?_ _)); exact BK117.out⟩
                    have n5_ : Aside0 (Below w.heap.size w (wr.setCell ⟨gb117, 3, none⟩ (.int .i64 (wrap64 (x118003_1 + 1))))) := ⟨by repeat (first | (with_reducible first | exact HB.out | apply below_alloc | apply pw_below_drewN | apply below_drew1 | refine below_set ?_ GE116.out | refine below_set ?_ GE117.out) | exact HB.out)⟩
                    (try clear HO_0)
                    (try clear HO_118000)
                    (try clear HO123)
                    (try clear BK116)
                    (try clear BK117)
                    (try clear HB)
                    generalize (wr.setCell ⟨gb117, 3, none⟩ (.int .i64 (wrap64 (x118003_1 + 1)))) = w32 at n0_ n1_ n2_ n3_ n4_ n5_ ⊢
                    have HO_0 := n0_
                    have HO_118000 := n1_
                    have HO123 := n2_
                    have BK116 := n3_
                    have BK117 := n4_
                    have HB := n5_
                    clear n0_ n1_ n2_ n3_ n4_ n5_
                    have n0_ := Aside0.mk (Kd.V_drew HO_0.out)
                    have n1_ := Aside0.mk (Kd.R_drew HO_118000.out)
                    have n2_ := Aside0.mk (Kd.V_drew HO123.out)
                    have n3_ := Aside0.mk (blk_drew BK116.out)
                    have n4_ := Aside0.mk (blk_drew BK117.out)
                    have n5_ := Aside0.mk (below_drew1 HB.out)
                    clear HO_0
                    clear HO_118000
                    clear HO123
                    clear BK116
                    clear BK117
                    clear HB
                    have HO_0 := n0_
                    have HO_118000 := n1_
                    have HO123 := n2_
                    have BK116 := n3_
                    have BK117 := n4_
                    have HB := n5_
                    clear n0_ n1_ n2_ n3_ n4_ n5_
                    have q34 : ((ji22) : Int) ≤ ((y119.length : Int) : Int) := of_decide_eq_true (by first | (with_reducible assumption) | assumption)
                    obtain ⟨i034, hi034, _, hsz34, _⟩ := info_parts info5
                    have hroom34 : y119.length ≤ c29 := (Kd.V_reads' HO123.out).2.1
                    have hC34 : Kd.F (Kd.int .u8) _ _ A29 y119.length y119 := (Kd.V_at (base := w.heap.size) HO123.out).2.2
                    have hcut34 := cut_to (P := Try.prog) 22 5 .i64 Try.underlying22 hi034 A29 y119.length c29 (ji22) (of_decide_eq_true (by first | (with_reducible assumption) | assumption)) q34 hroom34
                    have hr34 := Kd.F_take (m := ((ji22) : Int).toNat) hC34 (by omega)
                    have hy34 : y130.length = ((ji22) : Int).toNat := (by rw [Ny130.out, List.length_take]; omega)
                    rw [← Ny130.out] at hr34
                    rw [← hy34] at hcut34
                    have HO134 := Aside0.mk (show Kd.V (Kd.int .u8) 5 _ w.heap.size _ (.slice A29 y130.length c29) y130 from Kd.V_mk (by omega) hr34)
                    have HC134 := Aside0.mk (show y130.length ≤ c29 from by omega)
                    clear hr34 hC34 hroom34 hi034 hsz34
                    have KY34 := Aside0.mk hy34
                    clear hy34
                    replace q34 := eq_true q34
                    refine start_ (n := 8) (S := fun w' => w'.cell? ⟨gb117, 0, none⟩ = some (u118000) ∧ w'.cell? ⟨gb117, 1, none⟩ = some (.slice none 0 0) ∧ w'.cell? ⟨gb117, 2, none⟩ = some (.bool x118002_1) ∧ w'.cell? ⟨gb117, 3, none⟩ = some (.int .i64 (wrap64 (x118003_1 + 1)))) (ds := [7]) #[false, false, false, false, false, false, false, false] (by kernel_rfl) rfl rfl ⟨(blk_cell BK117.out 0).trans rfl, (blk_cell BK117.out 1).trans rfl, (blk_cell BK117.out 2).trans rfl, (blk_cell BK117.out 3).trans rfl⟩ (fun hHeld => ?_); refine with_tabW halftoneref10_Of.tab11 halftoneref10_Of.bits11 (fun HT_ HW_ => ?_)
                    generalize w32.drew = w33 at HO_0 HO_118000 HO123 BK116 BK117 HB HO134 hHeld ⊢
                    refine pure_ (i := 0) (N := some 31) (v := ?_) (a' := ?_) #[true, false, false, false, false, false, false, false] rfl rfl (any_of HT_.out (by kernel_rfl)) (fun _ _ _ h => h) (Or.inl ⟨by rfl, ?_⟩) ?_ ?_
                    rotate_left
                    · intro w'
                      go_simp
                      with_reducible rfl
                    rotate_left
                    · simp only [Act.put, List.setIfInBounds_toArray, List.set_cons_zero, List.set_cons_succ, i64_w, i32_w]
                      rfl
                    refine pure_ (i := 2) (N := some 33) (v := ?_) (a' := ?_) #[true, false, true, false, false, false, false, false] rfl rfl (any_of HT_.out (by kernel_rfl)) (fun _ _ _ h => h) (Or.inl ⟨by rfl, ?_⟩) ?_ ?_
                    rotate_left
                    · intro w'
                      go_simp
                      with_reducible rfl
                    rotate_left
                    · simp only [Act.put, List.setIfInBounds_toArray, List.set_cons_zero, List.set_cons_succ, i64_w, i32_w]
                      rfl
                    refine pure_ (i := 3) (N := some 34) (v := ?_) (a' := ?_) #[true, false, true, true, false, false, false, false] rfl rfl (any_of HT_.out (by kernel_rfl)) (fun _ _ _ h => h) (Or.inl ⟨by rfl, ?_⟩) ?_ ?_
                    rotate_left
                    · intro w'
                      go_simp
                      with_reducible rfl
                    rotate_left
                    · simp only [Act.put, List.setIfInBounds_toArray, List.set_cons_zero, List.set_cons_succ, i64_w, i32_w]
                      rfl
                    refine pure_ (i := 4) (N := some 35) (v := ?_) (a' := ?_) #[true, false, true, true, true, false, false, false] rfl rfl (any_of HT_.out (by kernel_rfl)) (fun _ _ _ h => h) (Or.inl ⟨by rfl, ?_⟩) ?_ ?_
                    rotate_left
                    · intro w'
                      go_simp
                      with_reducible rfl
                    rotate_left
                    · simp only [Act.put, List.setIfInBounds_toArray, List.set_cons_zero, List.set_cons_succ, i64_w, i32_w]
                      rfl
                    refine take_ (i := 1) (N := some 32) (v := ?_) (a' := ?_) #[true, true, true, true, true, false, false, false] rfl rfl (take_ofW HT_.out HW_.out (by kernel_rfl)) (fun _ _ _ h => h) (Or.inl ⟨by rfl, ?_⟩) hHeld ?_ ?_
                    rotate_left
                    · rintro w' ⟨s0, s1, s2, s3⟩
                      go_simp
                      with_reducible rfl
                    rotate_left
                    · simp only [Act.put, List.setIfInBounds_toArray, List.set_cons_zero, List.set_cons_succ, i64_w, i32_w]
                      rfl
                    refine one_ (i := 5) (N := some 36) #[true, true, true, true, true, true, false, false] rfl rfl (one_of HT_.out (by kernel_rfl)) (by decide) (fun K hK => ?_)
                    refine Kd.R_append_rows_step (Kd.int .u8) (w0 := w) w.heap.size (by rfl) (.tmp 32) (.tmp 35) 22 5 (.int .u8 0) 1 rfl Try.underlying22 info5 rfl (by decide) (by omega) u118000 x118000_1 y130 _ _ _ (fun k_ => (w.heap.size ≤ k_)) (fun _ => False) rfl rfl ?aO ?aR (fun _ _ h => h) (fun _ h => h.elim) ?aF ?aB ?aS ?aL ?_
                    (case aR => repeat (first | exact (Kd.V_reads' HO134.out).2.2 | (with_reducible refine Kd.C_alloc ?_ _) | (with_reducible refine Kd.C_drewN ?_ _) | (with_reducible refine Kd.C_drew ?_)))
                    (case aB => exact (by repeat (first | (with_reducible first | exact HB.out | apply below_alloc | apply pw_below_drewN | apply below_drew1 | refine below_set ?_ GE116.out | refine below_set ?_ GE117.out) | exact HB.out)))
                    (case aF => exact (fun k_ hk => (Nat.le_trans (below_size (by repeat (first | (with_reducible first | exact HB.out | apply below_alloc | apply pw_below_drewN | apply below_drew1 | refine below_set ?_ GE116.out | refine below_set ?_ GE117.out) | exact HB.out))) hk)))
                    (case aO => exact (by (with_reducible repeat (first | apply Kd.R_alloc | apply Kd.R_drewN | apply Kd.R_drew)); exact HO_118000.out))
                    (case aS => exact (below_size (by repeat (first | (with_reducible first | exact HB.out | apply below_alloc | apply pw_below_drewN | apply below_drew1 | refine below_set ?_ GE116.out | refine below_set ?_ GE117.out) | exact HB.out))))
                    (case aL => have := LMc25.out; omega)
                    intro v136 w35 ho hb hg hat
                    rw [← Ny135.out] at ho
                    have n0_ := Aside0.mk (Kd.V_afterv (ok := (fun k_ => (P0_ k_ ∨ w.heap.size ≤ k_) ∧ k_ ≠ gb116 ∧ k_ ≠ gb117)) (by (with_reducible repeat (first | apply Kd.V_alloc | apply Kd.V_drewN | apply Kd.V_drew)); exact Kd.V_mono HO_0.out (fun _ hk => ⟨⟨hk.1, ⟨hk.2.2.1, hk.2.2.2⟩⟩, hk.2.1⟩)) hg hat)
                    have n1_ := Aside0.mk (blk_grown (g := gb116) (o := .cells #[.slice none 0 0, .slice none 0 0, .bool x117002_1, .int .i64 x117003_1] 34 (0, 0)) (by (with_reducible repeat (first | refine blk_drewN ?_ _ | refine blk_drew ?_ | refine blk_alloc ?_ _)); exact BK116.out) hg (Kd.R_ne HO_118000.out BK116.out (by decide)))
                    have n2_ := Aside0.mk (blk_grown (g := gb117) (o := .cells #[u118000, .slice none 0 0, .bool x118002_1, .int .i64 (wrap64 (x118003_1 + 1))] 34 (0, 0)) (by (with_reducible repeat (first | refine blk_drewN ?_ _ | refine blk_drew ?_ | refine blk_alloc ?_ _)); exact BK117.out) hg (Kd.R_ne HO_118000.out BK117.out (by decide)))
                    have n3_ := Aside0.mk (Kd.V_afterv (ok := (fun k_ => (P0_ k_ ∨ w.heap.size ≤ k_) ∧ k_ ≠ gb116 ∧ k_ ≠ gb117)) (by (with_reducible repeat (first | apply Kd.V_alloc | apply Kd.V_drewN | apply Kd.V_drew)); exact Kd.V_mono HO123.out (fun _ hk => ⟨⟨hk.1, ⟨hk.2.2.1, hk.2.2.2⟩⟩, hk.2.1⟩)) hg hat)
                    have n4_ := Aside0.mk (Kd.V_afterv (ok := (fun k_ => (P0_ k_ ∨ w.heap.size ≤ k_) ∧ k_ ≠ gb116 ∧ k_ ≠ gb117)) (by (with_reducible repeat (first | apply Kd.V_alloc | apply Kd.V_drewN | apply Kd.V_drew)); exact Kd.V_mono HO134.out (fun _ hk => ⟨⟨hk.1, ⟨hk.2.2.1, hk.2.2.2⟩⟩, hk.2.1⟩)) hg hat)
                    have n5_ := Aside0.mk (hb)
                    have n6_ := Aside0.mk (ho)
                    clear HO_0
                    clear BK116
                    clear BK117
                    clear HO123
                    clear HO134
                    clear HB
                    clear HO_118000
                    have HO_0 := n0_
                    have BK116 := n1_
                    have BK117 := n2_
                    have HO123 := n3_
                    have HO134 := n4_
                    have HB := n5_
                    have HO137 := n6_
                    clear n0_ n1_ n2_ n3_ n4_ n5_ n6_
                    clear ho hb hg hat
                    obtain ⟨Ao36, co36, eo36⟩ := Kd.R_slice HO137.out
                    (first | subst eo36 | (injection eo36 with f1_ f2_ f3_; have f4_ := f1_.symm; have f5_ := f3_.symm; clear f1_ f2_ f3_; subst f4_; subst f5_))
                    refine hK.out _ _ ⟨(blk_cell BK117.out 0).trans rfl, (blk_cell BK117.out 1).trans rfl, (blk_cell BK117.out 2).trans rfl, (blk_cell BK117.out 3).trans rfl⟩ (fun hHeld => ?_)
                    clear hK K
                    refine norm_ (a' := ?_) ?_ ?_
                    rotate_left
                    · show Act.put _ (some 36) _ = _
                      simp only [Act.put, List.setIfInBounds_toArray, List.set_cons_zero, List.set_cons_succ, i64_w, i32_w]
                      rfl
                    refine pure_ (i := 6) (N := some 37) (v := ?_) (a' := ?_) #[true, true, true, true, true, true, true, false] rfl rfl (any_of HT_.out (by kernel_rfl)) (fun _ _ _ h => h) (Or.inl ⟨by rfl, ?_⟩) ?_ ?_
                    rotate_left
                    · intro w'
                      go_simp
                      with_reducible rfl
                    rotate_left
                    · simp only [Act.put, List.setIfInBounds_toArray, List.set_cons_zero, List.set_cons_succ, i64_w, i32_w]
                      rfl
                    refine last_ (i := 7) (N := none) #[true, true, true, true, true, true, true, true] rfl rfl (one_of HT_.out (by kernel_rfl)) (by decide) (fun K hK => ?_)
                    have hs37 : w35.cell? ⟨gb117, 0, none⟩ = some (u118000) := (blk_cell BK117.out 0).trans rfl
                    have hfs37 := blk_frozen BK117.out 0
                    have hns37_0 := NB116_117.out
                    have hms37_0 := NB117_116.out
                    refine skip_ (w1 := ?_) (by rfl) rfl ?_ ?_
                    rotate_left
                    · go_simp
                      rfl
                    refine hK.out _ _ ?_
                    clear hK K
                    refine done_ (done_of HT_.out (by kernel_rfl)) ?_
                    have n0_ : Aside0 (Kd.V (Kd.int .u8) 5 (w35.setCell ⟨gb117, 0, none⟩ (.slice Ao36 y135.length co36)) w.heap.size (fun k_ => (P0_ k_ ∨ w.heap.size ≤ k_) ∧ some k_ ≠ (.slice Ao36 y135.length co36 : Value).ownBlock ∧ k_ ≠ gb116 ∧ k_ ≠ gb117) (.slice (some ad118) x0_1.length co28) x0_1) := ⟨by (with_reducible repeat (first | apply Kd.V_alloc | apply Kd.V_drewN | apply Kd.V_drew)); exact Kd.V_mono (Kd.V_far (p := ⟨gb117, 0, none⟩) (Kd.V_mono HO_0.out (fun k_ hk => (⟨hk, hk.1.2.2⟩ : _ ∧ k_ ≠ gb117))) (fun _ hk => hk.2) (.slice Ao36 y135.length co36)) (fun _ hk => ⟨hk.1.1.1, ⟨hk.1.2, ⟨hk.1.1.2.1, hk.1.1.2.2⟩⟩⟩)⟩
                    have n1_ : Aside0 (Kd.V (Kd.int .u8) 5 (w35.setCell ⟨gb117, 0, none⟩ (.slice Ao36 y135.length co36)) w.heap.size (fun k_ => (P0_ k_ ∨ w.heap.size ≤ k_) ∧ some k_ ≠ (.slice Ao36 y135.length co36 : Value).ownBlock ∧ k_ ≠ gb116 ∧ k_ ≠ gb117) (.slice A29 y119.length c29) y119) := ⟨by (with_reducible repeat (first | apply Kd.V_alloc | apply Kd.V_drewN | apply Kd.V_drew)); exact Kd.V_mono (Kd.V_far (p := ⟨gb117, 0, none⟩) (Kd.V_mono HO123.out (fun k_ hk => (⟨hk, hk.1.2.2⟩ : _ ∧ k_ ≠ gb117))) (fun _ hk => hk.2) (.slice Ao36 y135.length co36)) (fun _ hk => ⟨hk.1.1.1, ⟨hk.1.2, ⟨hk.1.1.2.1, hk.1.1.2.2⟩⟩⟩)⟩
                    have n2_ : Aside0 (Kd.V (Kd.int .u8) 5 (w35.setCell ⟨gb117, 0, none⟩ (.slice Ao36 y135.length co36)) w.heap.size (fun k_ => (P0_ k_ ∨ w.heap.size ≤ k_) ∧ some k_ ≠ (.slice Ao36 y135.length co36 : Value).ownBlock ∧ k_ ≠ gb116 ∧ k_ ≠ gb117) (.slice A29 y130.length c29) y130) := ⟨by (with_reducible repeat (first | apply Kd.V_alloc | apply Kd.V_drewN | apply Kd.V_drew)); exact Kd.V_mono (Kd.V_far (p := ⟨gb117, 0, none⟩) (Kd.V_mono HO134.out (fun k_ hk => (⟨hk, hk.1.2.2⟩ : _ ∧ k_ ≠ gb117))) (fun _ hk => hk.2) (.slice Ao36 y135.length co36)) (fun _ hk => ⟨hk.1.1.1, ⟨hk.1.2, ⟨hk.1.1.2.1, hk.1.1.2.2⟩⟩⟩)⟩
                    have n3_ : Aside0 (Kd.R (Kd.int .u8) 5 (w35.setCell ⟨gb117, 0, none⟩ (.slice Ao36 y135.length co36)) w.heap.size (fun k_ => (w.heap.size ≤ k_)) (.slice Ao36 y135.length co36) y135) := ⟨by (with_reducible repeat (first | apply Kd.R_alloc | apply Kd.R_drewN | apply Kd.R_drew)); exact Kd.R_mono (Kd.R_far (p := ⟨gb117, 0, none⟩) (Kd.R_types HO137.out BK117.out (by decide)) (fun _ hk => hk.2) (.slice Ao36 y135.length co36)) (fun _ hk => hk.1)⟩
                    have n4_ : Aside0 ((w35.setCell ⟨gb117, 0, none⟩ (.slice Ao36 y135.length co36)).heap[gb116]? = some (.cells #[.slice none 0 0, .slice none 0 0, .bool x117002_1, .int .i64 x117003_1] 34 (0, 0))) := ⟨by (with_reducible repeat (first | refine blk_drewN ?_ _ | refine blk_drew ?_ | refine blk_alloc ?_ _)); refine blk_far ?_ NB116_117.out _; (with_reducible repeat (first | refine blk_drewN ?_ _ | refine blk_drew ?_ | refine blk_alloc ?_ _)); exact BK116.out⟩
                    have n5_ : Aside0 ((w35.setCell ⟨gb117, 0, none⟩ (.slice Ao36 y135.length co36)).heap[gb117]? = some (.cells #[.slice Ao36 y135.length co36, .slice none 0 0, .bool x118002_1, .int .i64 (wrap64 (x118003_1 + 1))] 34 (0, 0))) := ⟨by (with_reducible repeat (first | refine blk_drewN ?_ _ | refine blk_drew ?_ | refine blk_alloc ?_ _)); refine blk_put (cs := #[u118000, .slice none 0 0, .bool x118002_1, .int .i64 (wrap64 (x118003_1 + 1))]) ?_ 0 _ rfl; (with_reducible repeat (first | refine blk_drewN ?_ _ | refine blk_drew ?_ | refine blk_alloc ?_ _)); exact BK117.out⟩
                    have n6_ : Aside0 (Below w.heap.size w (w35.setCell ⟨gb117, 0, none⟩ (.slice Ao36 y135.length co36))) := ⟨by repeat (first | (with_reducible first | exact HB.out | apply below_alloc | apply pw_below_drewN | apply below_drew1 | refine below_set ?_ GE116.out | refine below_set ?_ GE117.out) | exact HB.out)⟩
                    (try clear HO_0)
                    (try clear HO123)
                    (try clear HO134)
                    (try clear HO137)
                    (try clear BK116)
                    (try clear BK117)
                    (try clear HB)
                    generalize (w35.setCell ⟨gb117, 0, none⟩ (.slice Ao36 y135.length co36)) = w38 at n0_ n1_ n2_ n3_ n4_ n5_ n6_ ⊢
                    have HO_0 := n0_
                    have HO123 := n1_
                    have HO134 := n2_
                    have HO137 := n3_
                    have BK116 := n4_
                    have BK117 := n5_
                    have HB := n6_
                    clear n0_ n1_ n2_ n3_ n4_ n5_ n6_
                    have hcz39_0 : w38.cell? ⟨gb117, 0, none⟩ = some (.slice Ao36 y135.length co36) := (blk_cell BK117.out 0).trans rfl
                    have hcz39_1 : w38.cell? ⟨gb117, 1, none⟩ = some (.slice none 0 0) := (blk_cell BK117.out 1).trans rfl
                    have hcz39_2 : w38.cell? ⟨gb117, 2, none⟩ = some (.bool x118002_1) := (blk_cell BK117.out 2).trans rfl
                    have hcz39_3 : w38.cell? ⟨gb117, 3, none⟩ = some (.int .i64 (wrap64 (x118003_1 + 1))) := (blk_cell BK117.out 3).trans rfl
                    have hfz39_0 := blk_frozen BK117.out 0
                    have hfz39_1 := blk_frozen BK117.out 1
                    have hfz39_2 := blk_frozen BK117.out 2
                    have hfz39_3 := blk_frozen BK117.out 3
                    try go_wp2_with (first | ((with_reducible refine gate_store (t := 3) (p := 42) rfl ?_); refine store_event (t := 3) (p := 42) (v := ?vo_w40) (w1 := (w38.setCell ⟨gb117, 3, none⟩ (.int .i64 (wrap64 ((wrap64 (x118003_1 + 1)) + (ji22)))))) ?hg ?ho ?hn ?hr ?_; (case ho => rfl); (case hg => rfl); (case hn => rfl); (case hr => first | (go_simp; done) | (go_simp; rfl)); intro w40 hw; have n0_ : Aside0 (Kd.V (Kd.int .u8) 5 w40 w.heap.size (fun k_ => (P0_ k_ ∨ w.heap.size ≤ k_) ∧ some k_ ≠ (.slice Ao36 y135.length co36 : Value).ownBlock ∧ k_ ≠ gb116 ∧ k_ ≠ gb117) (.slice (some ad118) x0_1.length co28) x0_1) := ⟨(by rw [hw]; exact (by (with_reducible repeat (first | apply Kd.V_alloc | apply Kd.V_drewN | apply Kd.V_drew)); exact Kd.V_mono (Kd.V_far (p := ⟨gb117, 3, none⟩) (Kd.V_mono HO_0.out (fun k_ hk => (⟨hk, hk.2.2.2⟩ : _ ∧ k_ ≠ gb117))) (fun _ hk => hk.2) (.int .i64 (wrap64 ((wrap64 (x118003_1 + 1)) + (ji22))))) (fun _ hk => ⟨hk.1.1, ⟨hk.1.2.1, ⟨hk.1.2.2.1, hk.1.2.2.2⟩⟩⟩)))⟩; have n1_ : Aside0 (Kd.V (Kd.int .u8) 5 w40 w.heap.size (fun k_ => (P0_ k_ ∨ w.heap.size ≤ k_) ∧ some k_ ≠ (.slice Ao36 y135.length co36 : Value).ownBlock ∧ k_ ≠ gb116 ∧ k_ ≠ gb117) (.slice A29 y119.length c29) y119) := ⟨(by rw [hw]; exact (by (with_reducible repeat (first | apply Kd.V_alloc | apply Kd.V_drewN | apply Kd.V_drew)); exact Kd.V_mono (Kd.V_far (p := ⟨gb117, 3, none⟩) (Kd.V_mono HO123.out (fun k_ hk => (⟨hk, hk.2.2.2⟩ : _ ∧ k_ ≠ gb117))) (fun _ hk => hk.2) (.int .i64 (wrap64 ((wrap64 (x118003_1 + 1)) + (ji22))))) (fun _ hk => ⟨hk.1.1, ⟨hk.1.2.1, ⟨hk.1.2.2.1, hk.1.2.2.2⟩⟩⟩)))⟩; have n2_ : Aside0 (Kd.V (Kd.int .u8) 5 w40 w.heap.size (fun k_ => (P0_ k_ ∨ w.heap.size ≤ k_) ∧ some k_ ≠ (.slice Ao36 y135.length co36 : Value).ownBlock ∧ k_ ≠ gb116 ∧ k_ ≠ gb117) (.slice A29 y130.length c29) y130) := ⟨(by rw [hw]; exact (by (with_reducible repeat (first | apply Kd.V_alloc | apply Kd.V_drewN | apply Kd.V_drew)); exact Kd.V_mono (Kd.V_far (p := ⟨gb117, 3, none⟩) (Kd.V_mono HO134.out (fun k_ hk => (⟨hk, hk.2.2.2⟩ : _ ∧ k_ ≠ gb117))) (fun _ hk => hk.2) (.int .i64 (wrap64 ((wrap64 (x118003_1 + 1)) + (ji22))))) (fun _ hk => ⟨hk.1.1, ⟨hk.1.2.1, ⟨hk.1.2.2.1, hk.1.2.2.2⟩⟩⟩)))⟩; have n3_ : Aside0 (Kd.R (Kd.int .u8) 5 w40 w.heap.size (fun k_ => (w.heap.size ≤ k_)) (.slice Ao36 y135.length co36) y135) := ⟨(by rw [hw]; exact (by (with_reducible repeat (first | apply Kd.R_alloc | apply Kd.R_drewN | apply Kd.R_drew)); exact Kd.R_mono (Kd.R_far (p := ⟨gb117, 3, none⟩) (Kd.R_types HO137.out BK117.out (by decide)) (fun _ hk => hk.2) (.int .i64 (wrap64 ((wrap64 (x118003_1 + 1)) + (ji22))))) (fun _ hk => hk.1)))⟩; have n4_ : Aside0 (w40.heap[gb116]? = some (.cells #[.slice none 0 0, .slice none 0 0, .bool x117002_1, .int .i64 x117003_1] 34 (0, 0))) := ⟨(by rw [hw]; exact (by (with_reducible repeat (first | refine blk_drewN ?_ _ | refine blk_drew ?_ | refine blk_alloc ?_ _)); refine blk_far ?_ NB116_117.out _; (with_reducible repeat (first | refine blk_drewN ?_ _ | refine blk_drew ?_ | refine blk_alloc ?_ _)); exact BK116.out))⟩; have n5_ : Aside0 (w40.heap[gb117]? = some (.cells #[.slice Ao36 y135.length co36, .slice none 0 0, .bool x118002_1, .int .i64 (wrap64 ((wrap64 (x118003_1 + 1)) + (ji22)))] 34 (0, 0))) := ⟨(by rw [hw]; exact (by (with_reducible repeat (first | refine blk_drewN ?_ _ | refine blk_drew ?_ | refine blk_alloc ?_ _)); refine blk_put (cs := #[.slice Ao36 y135.length co36, .slice none 0 0, .bool x118002_1, .int .i64 (wrap64 (x118003_1 + 1))]) ?_ 3 _ rfl; (with_reducible repeat (first | refine blk_drewN ?_ _ | refine blk_drew ?_ | refine blk_alloc ?_ _)); exact BK117.out))⟩; have n6_ : Aside0 (Below w.heap.size w w40) := ⟨(by rw [hw]; exact (by repeat (first | (with_reducible first | exact HB.out | apply below_alloc | apply pw_below_drewN | apply below_drew1 | refine below_set ?_ GE116.out | refine below_set ?_ GE117.out) | exact HB.out)))⟩; clear hw; clear HO_0; clear HO123; clear HO134; clear HO137; clear BK116; clear BK117; clear HB; have HO_0 := n0_; have HO123 := n1_; have HO134 := n2_; have HO137 := n3_; have BK116 := n4_; have BK117 := n5_; have HB := n6_; clear n0_ n1_ n2_ n3_ n4_ n5_ n6_; have q41 : ((ji22) : Int) ≤ ((y119.length : Int) : Int) := of_decide_eq_true (by first | (with_reducible assumption) | assumption); obtain ⟨i041, hi041, _, hsz41, _⟩ := info_parts info5; have hroom41 : y119.length ≤ c29 := (Kd.V_reads' HO123.out).2.1; have hC41 : Kd.F (Kd.int .u8) _ _ A29 y119.length y119 := (Kd.V_at (base := w.heap.size) HO123.out).2.2; have q041 : (0 : Int) ≤ ((ji22) : Int) := of_decide_eq_true (by first | (with_reducible assumption) | assumption); have hcut41 := cut_from (P := Try.prog) 22 5 .i64 Try.underlying22 hi041 1 hsz41 A29 y119.length c29 (ji22) q041 q41; have hr41 := Kd.F_cut (m := ((ji22) : Int).toNat) (c := c29) hC41 (by omega) hroom41; obtain ⟨A41, hA41⟩ : ∃ A1, A1 = (if c29 = ((ji22) : Int).toNat then A29 else (A29 : Option Addr).map (·.add (((ji22) : Int).toNat * 1))) := ⟨_, rfl⟩; obtain ⟨c41, hc41⟩ : ∃ c1, c1 = c29 - ((ji22) : Int).toNat := ⟨_, rfl⟩; have hy41 : y138.length = y119.length - ((ji22) : Int).toNat := (by rw [Ny138.out, List.length_drop] <;> omega); rw [show (y119).drop ((ji22) : Int).toNat = y138 from Ny138.out.symm] at hr41; replace hr41 : Kd.F (Kd.int .u8) _ _ A41 y138.length y138 := (by rw [hA41]; exact hr41); rw [← hy41, ← hA41, ← hc41] at hcut41; have HO142 := Aside0.mk (show Kd.V (Kd.int .u8) 5 _ w.heap.size _ (.slice A41 y138.length c41) y138 from Kd.V_mk (by rw [hy41, hc41]; exact Nat.sub_le_sub_right hroom41 _) hr41); have HC142 := Aside0.mk (show y138.length ≤ c41 from by rw [hy41, hc41]; exact Nat.sub_le_sub_right hroom41 _); clear hr41 hC41 hroom41 hi041 hsz41 hc41; have KY41 := Aside0.mk hy41; have KA41 := Aside0.mk hA41; clear hy41 hA41; replace q41 := eq_true q41))
                    go_roundg k1
                    case measure => have := HK1.out; omega
                    case rel => exact ⟨(y138), (x117002_1), (x117003_1), (y135), (x118002_1), (wrap64 ((wrap64 (x118003_1 + 1)) + (ji22))), (.slice Ao36 y135.length co36), H', ⟨by have := HK1.out; omega⟩, ⟨by (with_reducible repeat (first | apply Kd.V_alloc | apply Kd.V_drewN | apply Kd.V_drew)); exact HO142.out⟩, ⟨by (with_reducible repeat (first | apply Kd.R_alloc | apply Kd.R_drewN | apply Kd.R_drew)); exact HO137.out⟩, ⟨by (with_reducible repeat (first | refine blk_drewN ?_ _ | refine blk_drew ?_ | refine blk_alloc ?_ _)); exact BK116.out⟩, ⟨by (with_reducible repeat (first | refine blk_drewN ?_ _ | refine blk_drew ?_ | refine blk_alloc ?_ _)); exact BK117.out⟩, ⟨by repeat (first | (with_reducible first | exact HB.out | apply below_alloc | apply pw_below_drewN | apply below_drew1 | refine below_set ?_ GE116.out | refine below_set ?_ GE117.out) | exact HB.out)⟩⟩
                  · rw [if_neg c25] at H
                    exact absurd H (by simp)
                · rw [if_neg c24] at H
                  exact absurd H (by simp)
              · rw [if_neg c23] at H
                exact absurd H (by simp)
          · rw [if_neg c8] at H
            exact absurd H (by simp)
        · rw [if_neg c7] at H
          exact absurd H (by simp)
      · rw [if_neg c6] at H
        have c6b0 : decide (0 < (x0_1.length : Int)) = false := decide_eq_false c6
        have c6b1 : decide (0 < x0_1.length) = false := decide_eq_false (by omega)
        clear c6
        simp only [Option.some.injEq, Prod.mk.injEq] at H
        obtain ⟨rfl, rfl, rfl, rfl⟩ := H
        obtain ⟨Ao42, co42, eo42⟩ := Kd.V_slice HO_0.out
        subst eo42
        have hnb43 := NB117_116.out
        have hnc43 := NB116_117.out
        have hcz44_0 : wr.cell? ⟨gb117, 0, none⟩ = some (u118000) := (blk_cell BK117.out 0).trans rfl
        have hcz44_1 : wr.cell? ⟨gb117, 1, none⟩ = some (.slice none 0 0) := (blk_cell BK117.out 1).trans rfl
        have hcz44_2 : wr.cell? ⟨gb117, 2, none⟩ = some (.bool x118002_1) := (blk_cell BK117.out 2).trans rfl
        have hcz44_3 : wr.cell? ⟨gb117, 3, none⟩ = some (.int .i64 x118003_1) := (blk_cell BK117.out 3).trans rfl
        have hfz44_0 := blk_frozen BK117.out 0
        have hfz44_1 := blk_frozen BK117.out 1
        have hfz44_2 := blk_frozen BK117.out 2
        have hfz44_3 := blk_frozen BK117.out 3
        obtain ⟨Ao45, co45, eo45⟩ := Kd.R_slice HO_118000.out
        subst eo45
        have hcz46_0 : wr.cell? ⟨gb116, 0, none⟩ = some (.slice none 0 0) := (blk_cell BK116.out 0).trans rfl
        have hcz46_1 : wr.cell? ⟨gb116, 1, none⟩ = some (.slice none 0 0) := (blk_cell BK116.out 1).trans rfl
        have hcz46_2 : wr.cell? ⟨gb116, 2, none⟩ = some (.bool x117002_1) := (blk_cell BK116.out 2).trans rfl
        have hcz46_3 : wr.cell? ⟨gb116, 3, none⟩ = some (.int .i64 x117003_1) := (blk_cell BK116.out 3).trans rfl
        have hfz46_0 := blk_frozen BK116.out 0
        have hfz46_1 := blk_frozen BK116.out 1
        have hfz46_2 := blk_frozen BK116.out 2
        have hfz46_3 := blk_frozen BK116.out 3
        go_wp2
        refine bodyPost_ret (results_cell_row rfl _ _ gb116 34 #[.slice Ao45 x118000_1.length co45, .slice none 0 0, .bool x118002_1, .int .i64 x118003_1] (0, 0) _ rfl (by (with_reducible repeat (first | refine blk_drewN ?_ _ | refine blk_drew ?_ | refine blk_alloc ?_ _)); refine blk_put (cs := #[.slice Ao45 x118000_1.length co45, .slice none 0 0, .bool x118002_1, .int .i64 x117003_1]) ?_ 3 _ rfl; (with_reducible repeat (first | refine blk_drewN ?_ _ | refine blk_drew ?_ | refine blk_alloc ?_ _)); refine blk_put (cs := #[.slice Ao45 x118000_1.length co45, .slice none 0 0, .bool x117002_1, .int .i64 x117003_1]) ?_ 2 _ rfl; (with_reducible repeat (first | refine blk_drewN ?_ _ | refine blk_drew ?_ | refine blk_alloc ?_ _)); refine blk_put (cs := #[.slice Ao45 x118000_1.length co45, .slice none 0 0, .bool x117002_1, .int .i64 x117003_1]) ?_ 1 _ rfl; (with_reducible repeat (first | refine blk_drewN ?_ _ | refine blk_drew ?_ | refine blk_alloc ?_ _)); refine blk_put (cs := #[.slice none 0 0, .slice none 0 0, .bool x117002_1, .int .i64 x117003_1]) ?_ 0 _ rfl; (with_reducible repeat (first | refine blk_drewN ?_ _ | refine blk_drew ?_ | refine blk_alloc ?_ _)); exact BK116.out) Try.underlying34 rfl (by kernel_rfl)) rfl ?_
        exact ⟨_, _, by first | rfl | (simp [errW_none, errW_some] <;> rfl) | (simp [*, errW_none, errW_some] <;> rfl), by (with_reducible repeat (first | apply Kd.R_alloc | apply Kd.R_drewN | apply Kd.R_drew)); exact Kd.R_mono (Kd.R_far (p := ⟨gb116, 3, none⟩) (Kd.R_far (p := ⟨gb116, 2, none⟩) (Kd.R_far (p := ⟨gb116, 1, none⟩) (Kd.R_far (p := ⟨gb116, 0, none⟩) (Kd.R_types HO_118000.out BK116.out (by decide)) (fun _ hk => hk.2) (.slice Ao45 x118000_1.length co45)) (fun _ hk => hk.2) (.slice none 0 0)) (fun _ hk => hk.2) (.bool x118002_1)) (fun _ hk => hk.2) (.int .i64 x118003_1)) (fun _ hk => ⟨hk.1, (by simp [Value.ownBlock])⟩), by first | exact Kd.R_nil _ _ _ _ _ | exact Kd.N_nil _ _ _ _ _ | exact Kd.V_nil _ _ _ _ _ | exact Kd.Q_nil _ _ _ _ _ | exact Kd.S_nil _ _ _ _ _, by repeat (first | (with_reducible first | exact HB.out | apply below_alloc | apply pw_below_drewN | apply below_drew1 | refine below_set ?_ GE116.out | refine below_set ?_ GE117.out) | exact HB.out)⟩

-- GIVEN BY HAND: function 18 (slices_Clone_byte_byte)

-- NOT PRINTED: function 15 (blocks_Reader_Rest)

-- NOT PRINTED: function 4 (halftonelaw10_BlocksReads)


end Go.Proofs.Ytcfdhfgnfakiiaa.Lib
