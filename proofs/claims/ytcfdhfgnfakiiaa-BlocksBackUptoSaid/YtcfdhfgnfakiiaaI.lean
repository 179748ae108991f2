/- slices.Chunk over bytes: the iterator, walked by hand: the cuts that it hands out, in their order. -/
import Derived.RangeFuncBox
import Derived.RangeFuncNested
import Derived.RangeFuncBound
import Derived.RangeFuncCalls
import Derived.RangeFuncLeaves
import Derived.Shelf.Abstract
import Derived.Shelf.RegionOpen
import Derived.WalkKit
import Derived.OwnWalkIn
import Derived.TacticsInMore
import Derived.LoopNIn
import Derived.LoopIn
import Derived.Maps.AppendAt
import Derived.Sort.BigQuietIn
import Derived.WalkLawsBesides
import Derived.WalkSpells
import Derived.Test.YtcfdhfgnfakiiaaH
namespace Go.Proofs.Ytcfdhfgnfakiiaa.Lib
open Go.RowKit Go.Shelf Go.Proofs.YtcfdhfgnfakiiaaW.PrintWords Go.Proofs.YtcfdhfgnfakiiaaW.PrintMore
attribute [local go_sem] Oper.semAt_some
attribute [local go_sem] max2_int min2_int max_two min_two
/-- a cut of the bytes: where it begins, how long it is -/
abbrev Cut (m : Nat) := { p : Nat × Nat // p.1 + p.2 ≤ m ∧ 1 ≤ p.2 ∧ p.2 ≤ 255 }
set_option maxRecDepth 100000 in
theorem chunk_in (F : Fence) (n : Nat) (h17 : F.fn 17) (hro : F.round = none) (A : Option Addr) (m c : Nat) (s : Int) (h1 : 1 ≤ s) (w : World) :
    CallsIn F n Try.prog 17 #[.slice A m c, .int .i64 s] w fun e w' => e = .returned (.func (.func 19) #[] #[.pointer (some ⟨w.heap.size, 0, none⟩), .pointer (some ⟨w.heap.size + 1, 0, none⟩)]) ∧ w' = (w.alloc (.cells #[.slice A m c] 22)).alloc (.cells #[.int .i64 s] 3) := by
  have hd : decide (s < 1) = false := decide_eq_false (by omega)
  refine callsIn_of_wp Try.func17 rfl h17 ?_ hro
  simp only [Try.ntmps17, List.size_toArray, List.length_cons, List.length_nil, Nat.reduceAdd, Nat.reduceSub, Array.replicate_succ, Array.replicate_zero, List.push_toArray, List.append_toArray, List.nil_append, List.cons_append]
  gi_wp2
  go_ret
  exact ⟨rfl, rfl⟩
set_option maxRecDepth 100000 in
set_option maxHeartbeats 1000000 in
theorem chunk1_in (F : Fence) (n : Nat) (h19 : F.fn 19) (hro : F.round = none) (hn : 1 ≤ n) (l B1 B2 : Nat) (Kp : World → World → Prop) (ad : Addr) (m c : Nat) (s : Nat) (hs : 1 ≤ s) (hs2 : s ≤ 255) (hm : m ≤ 140737488351232) (hmc : m ≤ c) (hk1 : ∀ X Y v, Kp X Y → X.cell? ⟨B1, 0, none⟩ = some v → Y.cell? ⟨B1, 0, none⟩ = some v) (hk2 : ∀ X Y v, Kp X Y → X.cell? ⟨B2, 0, none⟩ = some v → Y.cell? ⟨B2, 0, none⟩ = some v) (J Jx : List (Cut m) → World → Prop)
    (hY : ∀ pre x W, J pre W → pre.length < m → YieldAt F (n - 1) Try.prog l #[.slice (some (ad.add x.1.1)) x.1.2 x.1.2] W fun e W' =>
      (e = .returned (.bool true) ∧ J (pre ++ [x]) W' ∧ Kp W W') ∨ (e = .returned (.bool false) ∧ Jx (pre ++ [x]) W'))
    (W : World) (hc1 : W.cell? ⟨B1, 0, none⟩ = some (.slice (some ad) m c)) (hc2 : W.cell? ⟨B2, 0, none⟩ = some (.int .i64 s)) (h0 : J [] W) (hJd : ∀ pre W k, J pre W → J pre (W.drewN k)) :
    CallsIn F n Try.prog 19 #[.func (.yield l) #[] #[], .pointer (some ⟨B1, 0, none⟩), .pointer (some ⟨B2, 0, none⟩)] W fun e W' => (∃ v, e = .returned v) ∧
      ((∃ ys : List (Cut m), (∃ k, ys.map (·.1) = (List.range k).map (fun j => (j * s, min s (m - j * s))) ∧ m ≤ k * s) ∧ J ys W') ∨ (∃ pre, True ∧ Jx pre W')) := by
  refine callsIn_of_wp Try.func19 rfl h19 ?_ hro
  simp only [Try.ntmps19, List.size_toArray, List.length_cons, List.length_nil, Nat.reduceAdd, Nat.reduceSub, Array.replicate_succ, Array.replicate_zero, List.push_toArray, List.append_toArray, List.nil_append, List.cons_append]
  gi_wp2
  gi_loopw [4] (fun i wr => ∃ (k : Nat) (pre : List (Cut m)), i = .int .i64 ((k * s : Nat) : Int) ∧ k * s ≤ m + s ∧ pre.map (·.1) = (List.range k).map (fun j => (j * s, min s (m - j * s))) ∧ J pre wr ∧ wr.cell? ⟨B1, 0, none⟩ = some (.slice (some ad) m c) ∧ wr.cell? ⟨B2, 0, none⟩ = some (.int .i64 s))
    (fun i _ => m + s - (intOf i).toNat)
  case atStart => exact ⟨0, [], by simp, by omega, rfl, h0, hc1, hc2⟩
  case round =>
    obtain ⟨k, pre, rfl, hk, hpre, hJ, hc1, hc2⟩ := hrel
    obtain ⟨i, hi⟩ : ∃ i, k * s = i := ⟨_, rfl⟩
    rw [hi] at hk ⊢
    have HI := Aside0.mk hi
    have HP := Aside0.mk hpre
    clear hi hpre
    have HC1 := Aside0.mk hc1
    have HC2 := Aside0.mk hc2
    have hpl : pre.length = k := by have := congrArg List.length HP.out; simpa using this
    by_cases hlt : i < m
    · have hkm : k < m := by
        have h1 : k * 1 ≤ k * s := Nat.mul_le_mul_left k hs
        have h2 := HI.out
        omega
      have hks : (k + 1) * s = i + s := by rw [Nat.add_mul, HI.out, Nat.one_mul]
      have HKS := Aside0.mk hks
      clear hks
      have hdr := HP.out
      by_cases hq : m - i < s
      · have e1 : ((i : Int) + ((m - i : Nat) : Int)).toNat - i = m - i := by omega
        gi_wp2
        refine wpIn_region_quiet_lit hro (by kernel_rfl) (by kernel_rfl) ?_
        repeat (gi_big_quiet_step (fail))
        refine wpQuietIn_nil ?_
        intro _ hw'
        obtain ⟨nq, hw''⟩ := hw'
        subst hw''
        obtain ⟨fn, tmps, assign, body, hy, hR⟩ := hY pre ⟨(i, m - i), by constructor <;> (try constructor) <;> (show _ ≤ _) <;> omega⟩ (wr.drewN nq) (hJd _ _ _ hJ) (by omega)
        dsimp only at hy
        have HR := Aside0.mk hR
        clear hR hdr hpl
        gi_wp2
        refine HR.out.mono ?_
        rintro e W' (⟨rfl, hJ', hk'⟩ | ⟨rfl, hJx'⟩)
        · have hc1' : W'.cell? ⟨B1, 0, none⟩ = some (.slice (some ad) m c) := hk1 _ _ _ hk' (by simpa using HC1.out)
          have hc2' : W'.cell? ⟨B2, 0, none⟩ = some (.int .i64 s) := hk2 _ _ _ hk' (by simpa using HC2.out)
          gi_wp2
          exact ⟨⟨k + 1, pre ++ [⟨(i, m - i), _⟩], by rw [HKS.out]; rfl, by rw [HKS.out]; omega, by rw [List.map_append, HP.out, List.range_succ, List.map_append, List.map_singleton, List.map_singleton, HI.out]; congr 3; exact (show min s (m - i) = m - i by omega).symm ▸ rfl, hJ', hc1', hc2'⟩, by simp [intOf]; omega⟩
        · gi_wp2
          refine bodyPost_ret (results_none rfl _ _ _) rfl ?_
          exact ⟨⟨_, rfl⟩, .inr ⟨_, trivial, hJx'⟩⟩
      · have e1 : ((i : Int) + ((s : Nat) : Int)).toNat - i = s := by omega
        gi_wp2
        refine wpIn_region_quiet_lit hro (by kernel_rfl) (by kernel_rfl) ?_
        repeat (gi_big_quiet_step (fail))
        refine wpQuietIn_nil ?_
        intro _ hw'
        obtain ⟨nq, hw''⟩ := hw'
        subst hw''
        obtain ⟨fn, tmps, assign, body, hy, hR⟩ := hY pre ⟨(i, s), by constructor <;> (try constructor) <;> (show _ ≤ _) <;> omega⟩ (wr.drewN nq) (hJd _ _ _ hJ) (by omega)
        dsimp only at hy
        have HR := Aside0.mk hR
        clear hR hdr hpl
        gi_wp2
        refine HR.out.mono ?_
        rintro e W' (⟨rfl, hJ', hk'⟩ | ⟨rfl, hJx'⟩)
        · have hc1' : W'.cell? ⟨B1, 0, none⟩ = some (.slice (some ad) m c) := hk1 _ _ _ hk' (by simpa using HC1.out)
          have hc2' : W'.cell? ⟨B2, 0, none⟩ = some (.int .i64 s) := hk2 _ _ _ hk' (by simpa using HC2.out)
          gi_wp2
          exact ⟨⟨k + 1, pre ++ [⟨(i, s), _⟩], by rw [HKS.out]; rfl, by rw [HKS.out]; omega, by rw [List.map_append, HP.out, List.range_succ, List.map_append, List.map_singleton, List.map_singleton, HI.out]; congr 3; exact (show min s (m - i) = s by omega).symm ▸ rfl, hJ', hc1', hc2'⟩, by simp [intOf]; omega⟩
        · gi_wp2
          refine bodyPost_ret (results_none rfl _ _ _) rfl ?_
          exact ⟨⟨_, rfl⟩, .inr ⟨_, trivial, hJx'⟩⟩
    · have hdr := HP.out
      gi_wp2
      go_end0
      exact ⟨⟨_, rfl⟩, .inl ⟨pre, ⟨k, hdr, by rw [HI.out]; omega⟩, hJ⟩⟩
set_option maxRecDepth 100000 in
set_option maxHeartbeats 1000000 in
/-- no bytes: no cut -/
theorem chunk1_zero (F : Fence) (n : Nat) (h19 : F.fn 19) (hro : F.round = none) (l B1 B2 : Nat) (A : Option Addr) (c : Nat) (s : Nat) (J Jx : List (Cut 0) → World → Prop)
    (W : World) (hc1 : W.cell? ⟨B1, 0, none⟩ = some (.slice A 0 c)) (hc2 : W.cell? ⟨B2, 0, none⟩ = some (.int .i64 s)) (h0 : J [] W) :
    CallsIn F n Try.prog 19 #[.func (.yield l) #[] #[], .pointer (some ⟨B1, 0, none⟩), .pointer (some ⟨B2, 0, none⟩)] W fun e W' => (∃ v, e = .returned v) ∧
      ((∃ ys : List (Cut 0), (∃ k, ys.map (·.1) = (List.range k).map (fun j => (j * s, min s (0 - j * s))) ∧ 0 ≤ k * s) ∧ J ys W') ∨ (∃ pre, True ∧ Jx pre W')) := by
  refine callsIn_of_wp Try.func19 rfl h19 ?_ hro
  simp only [Try.ntmps19, List.size_toArray, List.length_cons, List.length_nil, Nat.reduceAdd, Nat.reduceSub, Array.replicate_succ, Array.replicate_zero, List.push_toArray, List.append_toArray, List.nil_append, List.cons_append]
  gi_wp2
  gi_loopw [4] (fun i wr => i = .int .i64 0 ∧ J [] wr ∧ wr.cell? ⟨B1, 0, none⟩ = some (.slice A 0 c) ∧ wr.cell? ⟨B2, 0, none⟩ = some (.int .i64 s))
    (fun i _ => 0)
  case atStart => exact ⟨rfl, h0, hc1, hc2⟩
  case round =>
    obtain ⟨rfl, hJ, hc1, hc2⟩ := hrel
    gi_wp2
    go_end0
    exact ⟨⟨_, rfl⟩, .inl ⟨[], ⟨0, rfl, by omega⟩, hJ⟩⟩
theorem grown_drewN_ (w : World) (n : Nat) (row : Option Nat) : w.grownBy (w.drewN n) row := ⟨rfl, rfl, rfl, Nat.le_refl _, fun _ _ _ => rfl⟩
/-- what a round keeps: what lay below n₀; the two boxes -/
def CutKp (n₀ B1 B2 : Nat) (X Y : World) : Prop := Below n₀ X Y ∧ Y.heap[B1]? = X.heap[B1]? ∧ Y.heap[B2]? = X.heap[B2]?
theorem CutKp.trans {n₀ B1 B2 : Nat} {X Y Z : World} (h : CutKp n₀ B1 B2 X Y) (k : CutKp n₀ B1 B2 Y Z) : CutKp n₀ B1 B2 X Z := ⟨h.1.trans k.1, k.2.1.trans h.2.1, k.2.2.trans h.2.2⟩
theorem CutKp.k1 {n₀ B1 B2 : Nat} {X Y : World} (h : CutKp n₀ B1 B2 X Y) (v : Value) (hc : X.cell? ⟨B1, 0, none⟩ = some v) : Y.cell? ⟨B1, 0, none⟩ = some v := (World.cell?_of_block h.2.1).trans hc
theorem CutKp.k2 {n₀ B1 B2 : Nat} {X Y : World} (h : CutKp n₀ B1 B2 X Y) (v : Value) (hc : X.cell? ⟨B2, 0, none⟩ = some v) : Y.cell? ⟨B2, 0, none⟩ = some v := (World.cell?_of_block h.2.2).trans hc
theorem CutKp.put {n₀ B1 B2 : Nat} {w : World} (hn : n₀ ≤ w.heap.size) (h1 : B1 < w.heap.size) (h2 : B2 < w.heap.size) (W : World) (l : Nat) (o o' : Obj) (hl : w.heap.size ≤ l) (hk : W.heap[l]? = some o) (hc : o.isCells = false) (hw : o.isWalk = false) : CutKp n₀ B1 B2 W (W.putObj l o') :=
  ⟨belowK_b (w := w) hn W l o o' hl hk hc hw, World.putObj_heap_other (by omega), World.putObj_heap_other (by omega)⟩
/-- which cuts slices.Chunk hands out -/
def CutsOf (m s : Nat) (ys : List (Cut m)) : Prop := ∃ k, ys.map (·.1) = (List.range k).map (fun j => (j * s, min s (m - j * s))) ∧ m ≤ k * s
theorem chunk_stops (F : Fence) (n : Nat) (h19 : F.fn 19) (hro : F.round = none) (hn : 1 ≤ n) (n₀ B1 B2 : Nat) (A : Option Addr) (ad : Addr) (m c : Nat) (hA : 0 < m → A = some ad) (s : Nat) (hs : 1 ≤ s) (hs2 : s ≤ 255) (hm : m ≤ 140737488351232) (hmc : m ≤ c) (w : World)
    (hB1 : Boxed w B1 22 (.slice A m c)) (hB2 : Boxed w B2 3 (.int .i64 s)) :
    SeqStopsK F n Try.prog 19 #[.pointer (some ⟨B1, 0, none⟩), .pointer (some ⟨B2, 0, none⟩)] (fun x : Cut m => #[Value.slice (some (ad.add x.1.1)) x.1.2 x.1.2]) (CutKp n₀ B1 B2) (CutsOf m s) (fun _ => True) m w := fun l J Jx W hW hJ _ hY h0 => by
  have c1 : W.cell? ⟨B1, 0, none⟩ = some (.slice A m c) := (hW.cell (p := ⟨B1, 0, none⟩) hB1.lt).trans hB1.cell
  have c2 : W.cell? ⟨B2, 0, none⟩ = some (.int .i64 s) := (hW.cell (p := ⟨B2, 0, none⟩) hB2.lt).trans hB2.cell
  rcases Nat.eq_zero_or_pos m with h | h
  · subst h
    exact chunk1_zero F n h19 hro l B1 B2 A c s J Jx W c1 c2 h0
  · obtain rfl := hA h
    exact chunk1_in F n h19 hro hn l B1 B2 (CutKp n₀ B1 B2) ad m c s hs hs2 hm hmc (fun _ _ v hk hc => hk.k1 v hc) (fun _ _ v hk hc => hk.k2 v hc) J Jx hY W c1 c2 h0
      (fun pre X k hj => hJ pre X _ none hj (grown_drewN_ X k none) (fun _ e => by cases e))
/-- 'out = append(append(out, x), ys...)' over a box -/
theorem boxed_appended2 {W w1 w2 : World} {n₀ B : Nat} {t e : TypeId} {size : Nat} {v v1 v2 : Value} {k m m2 : Nat} {xs ys zs : List Value} {tmp : Obj}
    (hv : Boxed W B t v) (hte : t ≠ e) (hrow : W.ownsRow n₀ e size v k xs) (hn₀ : n₀ ≤ W.heap.size) (hB : n₀ ≤ B)
    (hown1 : w1.ownsRow n₀ e size v1 m ys) (hgrow1 : (W.alloc tmp).grownBy w1 v.ownBlock) (hown2 : w2.ownsRow n₀ e size v2 m2 zs) (hgrow2 : w1.grownBy w2 v1.ownBlock) :
    Boxed w2 B t v ∧ (w2.setCell ⟨B, 0, none⟩ v2).ownsRow n₀ e size v2 m2 zs ∧ Boxed (w2.setCell ⟨B, 0, none⟩ v2) B t v2 ∧ KeepsOthers W (w2.setCell ⟨B, 0, none⟩ v2) ∧ Below n₀ W w1 ∧ Below n₀ W (w2.setCell ⟨B, 0, none⟩ v2) ∧
      (∀ (B' : Nat) (t' : TypeId) (u : Value), Boxed W B' t' u → t' ≠ e → B' ≠ B → (w2.setCell ⟨B, 0, none⟩ v2).heap[B']? = W.heap[B']?) := by
  obtain ⟨a1, _, _, _, a5⟩ := hv.appended hte hrow hn₀ hB hown1 hgrow1
  have hb1 : Below n₀ W w1 := by
    refine ((Below.refl n₀ W).alloc hn₀ tmp).grown hgrow1 (by simp; omega) fun j ej => ?_
    rcases hrow.2 with ⟨rfl, _⟩ | ⟨g, cap, cur, rfl, hb, _, _⟩
    · simp [Value.ownBlock] at ej
    · obtain rfl : g = j := by simpa [Value.ownBlock] using ej
      exact hb
  have hb12 : Below n₀ w1 w2 := by
    refine (Below.refl n₀ w1).grown hgrow2 (Nat.le_trans hn₀ hb1.size) fun j ej => ?_
    rcases hown1.2 with ⟨rfl, _⟩ | ⟨g, cap, cur, rfl, hb, _, _⟩
    · simp [Value.ownBlock] at ej
    · obtain rfl : g = j := by simpa [Value.ownBlock] using ej
      exact hb
  have a2 : Boxed w2 B t v := a1.kept hgrow2 (a1.not_row hte hown1)
  have ko : ∀ {X Y : World} {u : Value} {k' : Nat} {us : List Value}, X.ownsRow n₀ e size u k' us → X.grownBy Y u.ownBlock → KeepsOthers X Y := fun {X Y u k' us} hr hg => by
    refine KeepsOthers.of_grownBy hg fun j o ej hj => ?_
    rcases hr.2 with ⟨rfl, _⟩ | ⟨g, cap, cur, rfl, _, hgb, _⟩
    · simp [Value.ownBlock] at ej
    · obtain rfl : g = j := by simpa [Value.ownBlock] using ej
      rw [hgb] at hj; cases hj; rfl
  refine ⟨a2, hown2.kept (grownBy_setCell' w2 B v2) (.inr (a2.not_row hte hown2).symm), a2.set v2, ((KeepsOthers.alloc W tmp).trans ((ko (hrow.alloc tmp) hgrow1).trans (ko hown1 hgrow2))).trans (KeepsOthers.setCell _ _ _), hb1, (hb1.trans hb12).setCell (p := ⟨B, 0, none⟩) hB v2, fun B' t' u hu ht' hne => ?_⟩
  have b1 : Boxed w1 B' t' u := (hu.alloc tmp).kept hgrow1 (hu.not_row ht' hrow)
  have b2 : Boxed w2 B' t' u := b1.kept hgrow2 (b1.not_row ht' hown1)
  exact (b2.other hne v2).trans (show W.heap[B']? = _ from hu).symm
end Go.Proofs.Ytcfdhfgnfakiiaa.Lib
