/- near: the iterator over the places: which it hands out. -/
import Derived.Test.YtmeafgoifekffaaP1
import Derived.RangeFuncBox
import Derived.RangeFuncNested
import Derived.RangeFuncBound
import Derived.RangeFuncCalls
import Derived.RangeFuncLeaves
import Derived.Shelf.Abstract
import Derived.Shelf.RegionOpen
import Derived.OwnWalkIn
import Derived.TacticsInMore
import Derived.LoopNIn
import Derived.LoopIn
import Derived.Sort.BigQuietIn
import Derived.WalkLawsBesides
import Derived.WalkSpells
namespace Go.Proofs.Ytmeafgoifekffaa.Lib
open Go.RowKit Go.Shelf Go.Proofs.YtmeafgoifekffaaW.PrintWords Go.Proofs.YtmeafgoifekffaaW.PrintMore
attribute [local go_sem] Oper.semAt_some
set_option linter.unusedVariables false
set_option linter.unusedSimpArgs false
/-- what a round keeps for the iterator -/
structure NeKp (B : Nat) (X Y : World) : Prop where
  b0 : Y.cell? ⟨B, 0, none⟩ = X.cell? ⟨B, 0, none⟩
  b1 : Y.cell? ⟨B + 1, 0, none⟩ = X.cell? ⟨B + 1, 0, none⟩
  b2 : Y.cell? ⟨B + 1 + 1, 0, none⟩ = X.cell? ⟨B + 1 + 1, 0, none⟩
theorem NeKp.trans {B : Nat} {X Y Z : World} (h : NeKp B X Y) (k : NeKp B Y Z) : NeKp B X Z := ⟨k.b0.trans h.b0, k.b1.trans h.b1, k.b2.trans h.b2⟩
/-- the boxes -/
structure NeBx (B a b : Nat) (wv : Bool) (W : World) : Prop where
  b0 : W.cell? ⟨B, 0, none⟩ = some (.int .i64 a)
  b1 : W.cell? ⟨B + 1, 0, none⟩ = some (.int .i64 b)
  b2 : W.cell? ⟨B + 1 + 1, 0, none⟩ = some (.bool wv)
theorem NeBx.kp {B a b : Nat} {wv : Bool} {X Y : World} (h : NeBx B a b wv X) (k : NeKp B X Y) : NeBx B a b wv Y := ⟨k.b0.trans h.b0, k.b1.trans h.b1, k.b2.trans h.b2⟩
set_option maxRecDepth 100000 in
theorem near_in (F : Fence) (n : Nat) (h28 : F.fn 28) (hro : F.round = none) (a b : Nat) (wv : Bool) (w : World) :
    CallsIn F n Try.prog 28 #[.int .i64 a, .int .i64 b, .bool wv] w fun e w' => e = .returned (.func (.func 35) #[] #[.pointer (some ⟨w.heap.size, 0, none⟩), .pointer (some ⟨w.heap.size + 1, 0, none⟩), .pointer (some ⟨w.heap.size + 1 + 1, 0, none⟩)]) ∧
      w' = ((w.alloc (.cells #[.int .i64 a] 3)).alloc (.cells #[.int .i64 b] 3)).alloc (.cells #[.bool wv] 4) := by
  refine callsIn_of_wp Try.func28 rfl h28 ?_ hro
  simp only [Try.ntmps28, List.size_toArray, List.length_cons, List.length_nil, Nat.reduceAdd, Nat.reduceSub, Array.replicate_succ, Array.replicate_zero, List.push_toArray, List.append_toArray, List.nil_append, List.cons_append]
  gi_wp2
  go_ret
  exact ⟨rfl, rfl⟩
set_option maxRecDepth 100000 in
set_option maxHeartbeats 1000000 in
theorem near1_in (F : Fence) (n : Nat) (h35 : F.fn 35) (hro : F.round = none) (hn : 1 ≤ n) (a b : Nat) (wv : Bool) (l B : Nat) (ha : a ≤ 2048) (hb : b ≤ 2048) (J Jx : List (Nat × Nat) → World → Prop)
    (hY : ∀ pre x W, J pre W → pre.length < 7 → YieldAt F (n - 1) Try.prog l #[.int .i64 x.1, .int .i64 x.2] W fun e W' =>
      (e = .returned (.bool true) ∧ J (pre ++ [x]) W' ∧ NeKp B W W') ∨ (e = .returned (.bool false) ∧ Jx (pre ++ [x]) W'))
    (W : World) (hbx : NeBx B a b wv W) (h0 : J [] W) :
    CallsIn F n Try.prog 35 #[.func (.yield l) #[] #[], .pointer (some ⟨B, 0, none⟩), .pointer (some ⟨B + 1, 0, none⟩), .pointer (some ⟨B + 1 + 1, 0, none⟩)] W fun e W' => (∃ v, e = .returned v) ∧
      (J (nearL a b wv) W' ∨ (∃ pre, pre <+: nearL a b wv ∧ Jx pre W')) := by
  obtain ⟨c0, c1, c2⟩ := hbx
  obtain ⟨fn, tmps, assign, body, hy, hR⟩ := hY [] (a, b) W h0 (by decide)
  have HR := Aside0.mk hR
  have HBX := Aside0.mk (show NeBx B a b wv W from ⟨c0, c1, c2⟩)
  clear hR
  dsimp only at hy
  refine callsIn_of_wp Try.func35 rfl h35 ?_ hro
  simp only [Try.ntmps35, List.size_toArray, List.length_cons, List.length_nil, Nat.reduceAdd, Nat.reduceSub, Array.replicate_succ, Array.replicate_zero, List.push_toArray, List.append_toArray, List.nil_append, List.cons_append]
  gi_wp2
  refine HR.out.mono ?_
  rintro e W1 (⟨rfl, hJ1, hk1⟩ | ⟨rfl, hJx1⟩)
  · have HBX1 := Aside0.mk (HBX.out.kp hk1)
    clear hy hk1 HR
    gi_wp2
    cases wv with
    | true =>
      gi_loopw [12] (fun i wr => ∃ k : Nat, i = .int .u64 k ∧ k ≤ 3 ∧ J ((nearL a b true).take (k + 1)) wr ∧ Aside0 (NeBx B a b true wr)) (fun i _ => 3 - (intOf i).toNat)
      case atStart => exact ⟨0, rfl, by omega, hJ1, HBX1⟩
      case round =>
        clear HBX1 hJ1
        obtain ⟨k, rfl, hk, hJ, HB⟩ := hrel
        obtain ⟨d0, d1, d2⟩ := HB.out
        have hA1 : bits .andNot .i64 (b : Int) 1 = (lowN b 1 : Nat) := andNot_bits b 1 1 (by omega) (by omega) rfl
        have hA2 : bits .andNot .i64 (b : Int) 3 = (lowN b 2 : Nat) := andNot_bits b 2 3 (by omega) (by omega) rfl
        have hA3 : bits .andNot .i64 (b : Int) 7 = (lowN b 3 : Nat) := andNot_bits b 3 7 (by omega) (by omega) rfl
        rcases (by omega : k = 0 ∨ k = 1 ∨ k = 2 ∨ k = 3) with rfl | rfl | rfl | rfl
        · obtain ⟨fn, tmps, assign, body, hy, hR⟩ := hY _ (a, lowN b 1) wr hJ (by simp [nearL])
          have HR := Aside0.mk hR
          clear hR
          dsimp only at hy
          gi_wp2
          refine HR.out.mono ?_
          rintro e W2 (⟨rfl, hJ2, hk2⟩ | ⟨rfl, hJx2⟩)
          · have HB2 := Aside0.mk (HB.out.kp hk2)
            gi_wp2
            exact ⟨⟨1, by push_cast; rfl, by omega, hJ2, HB2⟩, by simp [intOf]⟩
          · gi_wp2
            refine bodyPost_ret (results_none rfl _ _ _) rfl ?_
            exact ⟨⟨_, rfl⟩, .inr ⟨_, ⟨_, rfl⟩, hJx2⟩⟩
        · obtain ⟨fn, tmps, assign, body, hy, hR⟩ := hY _ (a, lowN b 2) wr hJ (by simp [nearL])
          have HR := Aside0.mk hR
          clear hR
          dsimp only at hy
          gi_wp2
          refine HR.out.mono ?_
          rintro e W2 (⟨rfl, hJ2, hk2⟩ | ⟨rfl, hJx2⟩)
          · have HB2 := Aside0.mk (HB.out.kp hk2)
            gi_wp2
            exact ⟨⟨2, by push_cast; rfl, by omega, hJ2, HB2⟩, by simp [intOf]⟩
          · gi_wp2
            refine bodyPost_ret (results_none rfl _ _ _) rfl ?_
            exact ⟨⟨_, rfl⟩, .inr ⟨_, ⟨_, rfl⟩, hJx2⟩⟩
        · obtain ⟨fn, tmps, assign, body, hy, hR⟩ := hY _ (a, lowN b 3) wr hJ (by simp [nearL])
          have HR := Aside0.mk hR
          clear hR
          dsimp only at hy
          gi_wp2
          refine HR.out.mono ?_
          rintro e W2 (⟨rfl, hJ2, hk2⟩ | ⟨rfl, hJx2⟩)
          · have HB2 := Aside0.mk (HB.out.kp hk2)
            gi_wp2
            exact ⟨⟨3, by push_cast; rfl, by omega, hJ2, HB2⟩, by simp [intOf]⟩
          · gi_wp2
            refine bodyPost_ret (results_none rfl _ _ _) rfl ?_
            exact ⟨⟨_, rfl⟩, .inr ⟨_, ⟨_, rfl⟩, hJx2⟩⟩
        · gi_wp2
          go_end0
          exact ⟨⟨_, rfl⟩, .inl hJ⟩
    | false =>
      gi_loopw [12] (fun i wr => ∃ k : Nat, i = .int .u64 k ∧ k ≤ 3 ∧ J ((nearL a b false).take (2 * k + 1)) wr ∧ Aside0 (NeBx B a b false wr)) (fun i _ => 3 - (intOf i).toNat)
      case atStart => exact ⟨0, rfl, by omega, hJ1, HBX1⟩
      case round =>
        clear HBX1 hJ1
        obtain ⟨k, rfl, hk, hJ, HB⟩ := hrel
        obtain ⟨d0, d1, d2⟩ := HB.out
        have hA1 : bits .andNot .i64 (a : Int) 1 = (lowN a 1 : Nat) := andNot_bits a 1 1 (by omega) (by omega) rfl
        have hA2 : bits .andNot .i64 (a : Int) 3 = (lowN a 2 : Nat) := andNot_bits a 2 3 (by omega) (by omega) rfl
        have hA3 : bits .andNot .i64 (a : Int) 7 = (lowN a 3 : Nat) := andNot_bits a 3 7 (by omega) (by omega) rfl
        have hB0 : bits .andNot .i64 (b : Int) 0 = (lowN b 0 : Nat) := andNot_bits b 0 0 (by omega) (by omega) rfl
        have hB1 : bits .andNot .i64 (b : Int) 1 = (lowN b 1 : Nat) := andNot_bits b 1 1 (by omega) (by omega) rfl
        have hB2 : bits .andNot .i64 (b : Int) 3 = (lowN b 2 : Nat) := andNot_bits b 2 3 (by omega) (by omega) rfl
        have hB3 : bits .andNot .i64 (b : Int) 7 = (lowN b 3 : Nat) := andNot_bits b 3 7 (by omega) (by omega) rfl
        rcases (by omega : k = 0 ∨ k = 1 ∨ k = 2 ∨ k = 3) with rfl | rfl | rfl | rfl
        · obtain ⟨fn, tmps, assign, body, hy, hR⟩ := hY _ (lowN a 1, lowN b 0) wr hJ (by simp [nearL])
          have HR := Aside0.mk hR
          clear hR
          dsimp only at hy
          gi_wp2
          refine HR.out.mono ?_
          rintro e W2 (⟨rfl, hJ2, hk2⟩ | ⟨rfl, hJx2⟩)
          · have HB2 := Aside0.mk (HB.out.kp hk2)
            clear hy HR d0 d1 d2
            obtain ⟨d0, d1, d2⟩ := HB2.out
            obtain ⟨fn, tmps, assign, body, hy, hR⟩ := hY _ (lowN a 1, lowN b 1) W2 hJ2 (by simp [nearL])
            have HR := Aside0.mk hR
            clear hR
            dsimp only at hy
            gi_wp2
            refine HR.out.mono ?_
            rintro e W3 (⟨rfl, hJ3, hk3⟩ | ⟨rfl, hJx3⟩)
            · have HB3 := Aside0.mk (HB2.out.kp hk3)
              gi_wp2
              exact ⟨⟨1, by push_cast; rfl, by omega, hJ3, HB3⟩, by simp [intOf]⟩
            · gi_wp2
              refine bodyPost_ret (results_none rfl _ _ _) rfl ?_
              exact ⟨⟨_, rfl⟩, .inr ⟨_, ⟨_, rfl⟩, hJx3⟩⟩
          · gi_wp2
            refine ⟨fun _ h => (by cases h), ?_⟩
            gi_wp2
            refine bodyPost_ret (results_none rfl _ _ _) rfl ?_
            exact ⟨⟨_, rfl⟩, .inr ⟨_, ⟨_, rfl⟩, hJx2⟩⟩
        · obtain ⟨fn, tmps, assign, body, hy, hR⟩ := hY _ (lowN a 2, lowN b 1) wr hJ (by simp [nearL])
          have HR := Aside0.mk hR
          clear hR
          dsimp only at hy
          gi_wp2
          refine HR.out.mono ?_
          rintro e W2 (⟨rfl, hJ2, hk2⟩ | ⟨rfl, hJx2⟩)
          · have HB2 := Aside0.mk (HB.out.kp hk2)
            clear hy HR d0 d1 d2
            obtain ⟨d0, d1, d2⟩ := HB2.out
            obtain ⟨fn, tmps, assign, body, hy, hR⟩ := hY _ (lowN a 2, lowN b 2) W2 hJ2 (by simp [nearL])
            have HR := Aside0.mk hR
            clear hR
            dsimp only at hy
            gi_wp2
            refine HR.out.mono ?_
            rintro e W3 (⟨rfl, hJ3, hk3⟩ | ⟨rfl, hJx3⟩)
            · have HB3 := Aside0.mk (HB2.out.kp hk3)
              gi_wp2
              exact ⟨⟨2, by push_cast; rfl, by omega, hJ3, HB3⟩, by simp [intOf]⟩
            · gi_wp2
              refine bodyPost_ret (results_none rfl _ _ _) rfl ?_
              exact ⟨⟨_, rfl⟩, .inr ⟨_, ⟨_, rfl⟩, hJx3⟩⟩
          · gi_wp2
            refine ⟨fun _ h => (by cases h), ?_⟩
            gi_wp2
            refine bodyPost_ret (results_none rfl _ _ _) rfl ?_
            exact ⟨⟨_, rfl⟩, .inr ⟨_, ⟨_, rfl⟩, hJx2⟩⟩
        · obtain ⟨fn, tmps, assign, body, hy, hR⟩ := hY _ (lowN a 3, lowN b 2) wr hJ (by simp [nearL])
          have HR := Aside0.mk hR
          clear hR
          dsimp only at hy
          gi_wp2
          refine HR.out.mono ?_
          rintro e W2 (⟨rfl, hJ2, hk2⟩ | ⟨rfl, hJx2⟩)
          · have HB2 := Aside0.mk (HB.out.kp hk2)
            clear hy HR d0 d1 d2
            obtain ⟨d0, d1, d2⟩ := HB2.out
            obtain ⟨fn, tmps, assign, body, hy, hR⟩ := hY _ (lowN a 3, lowN b 3) W2 hJ2 (by simp [nearL])
            have HR := Aside0.mk hR
            clear hR
            dsimp only at hy
            gi_wp2
            refine HR.out.mono ?_
            rintro e W3 (⟨rfl, hJ3, hk3⟩ | ⟨rfl, hJx3⟩)
            · have HB3 := Aside0.mk (HB2.out.kp hk3)
              gi_wp2
              exact ⟨⟨3, by push_cast; rfl, by omega, hJ3, HB3⟩, by simp [intOf]⟩
            · gi_wp2
              refine bodyPost_ret (results_none rfl _ _ _) rfl ?_
              exact ⟨⟨_, rfl⟩, .inr ⟨_, ⟨_, rfl⟩, hJx3⟩⟩
          · gi_wp2
            refine ⟨fun _ h => (by cases h), ?_⟩
            gi_wp2
            refine bodyPost_ret (results_none rfl _ _ _) rfl ?_
            exact ⟨⟨_, rfl⟩, .inr ⟨_, ⟨_, rfl⟩, hJx2⟩⟩
        · gi_wp2
          go_end0
          exact ⟨⟨_, rfl⟩, .inl hJ⟩
  · gi_wp2
    refine bodyPost_ret (results_none rfl _ _ _) rfl ?_
    exact ⟨⟨_, rfl⟩, .inr ⟨_, by cases wv <;> exact ⟨_, rfl⟩, hJx1⟩⟩
theorem NeKp.put {B : Nat} {w : World} (h1 : B + 1 + 1 < w.heap.size) (W : World) (l : Nat) (ob ob' : Obj) (hl : w.heap.size ≤ l) (_ : W.heap[l]? = some ob) (_ : ob.isCells = false) (_ : ob.isWalk = false) : NeKp B W (W.putObj l ob') :=
  ⟨World.cell?_of_block (World.putObj_heap_other (show B ≠ l by omega)), World.cell?_of_block (World.putObj_heap_other (show B + 1 ≠ l by omega)), World.cell?_of_block (World.putObj_heap_other (show B + 1 + 1 ≠ l by omega))⟩
theorem near_stops (F : Fence) (n : Nat) (h35 : F.fn 35) (hro : F.round = none) (hn : 1 ≤ n) (a b : Nat) (wv : Bool) (B : Nat) (ha : a ≤ 2048) (hb : b ≤ 2048) (w : World) (hbx : NeBx B a b wv w) :
    SeqStopsK F n Try.prog 35 #[.pointer (some ⟨B, 0, none⟩), .pointer (some ⟨B + 1, 0, none⟩), .pointer (some ⟨B + 1 + 1, 0, none⟩)] (fun x : Nat × Nat => #[.int .i64 x.1, .int .i64 x.2]) (NeKp B) (fun ys => ys = nearL a b wv) (fun pre => pre <+: nearL a b wv) 7 w := fun l J Jx W hW hJ _ hY h0 =>
  (near1_in F n h35 hro hn a b wv l B ha hb J Jx hY W ⟨pw_cell_below hW hbx.b0, pw_cell_below hW hbx.b1, pw_cell_below hW hbx.b2⟩ h0).mono fun e W' h => ⟨h.1, h.2.imp (fun h => ⟨_, rfl, h⟩) id⟩
end Go.Proofs.Ytmeafgoifekffaa.Lib
