/- mark: walked by hand. -/
import Derived.Test.YtfmggodmhklfoaaV1
namespace Go.Proofs.Ytfmggodmhklfoaa.Lib
open Go.RowKit Go.Proofs.YtfmggodmhklfoaaW.PrintWords Go.Proofs.YtfmggodmhklfoaaW.PrintLast Go.Proofs.YtfmggodmhklfoaaW.PrintMore
set_option linter.unusedVariables false
set_option linter.unusedSimpArgs false
attribute [local go_sem] max2_int min2_int max_two min_two
/-- what a method's call leaves: only the sender's block and its row's were written -/
structure Left (w w' : World) (n₀ g : Nat) (vs vs' : Value) : Prop where
  keep : KeepBut w w' g vs.ownBlock
  below : Below n₀ w w'
  at_ : vs'.ownBlock = vs.ownBlock ∨ ∃ b, vs'.ownBlock = some b ∧ w.heap.size ≤ b
theorem Left.refl (w : World) (n₀ g : Nat) (vs : Value) : Left w w n₀ g vs vs := ⟨KeepBut.refl _ _ _, Below.refl _ _, .inl rfl⟩
theorem Left.trans {w w1 w2 : World} {n₀ g : Nat} {vs v1 v2 : Value} (h : Left w w1 n₀ g vs v1) (k : Left w1 w2 n₀ g v1 v2) : Left w w2 n₀ g vs v2 := by
  refine ⟨h.keep.trans k.keep h.at_, h.below.trans k.below, ?_⟩
  rcases k.at_ with e | ⟨b, e, hb⟩
  · rw [e]; exact h.at_
  · exact .inr ⟨b, e, Nat.le_trans h.keep.1 hb⟩
theorem Left.drawn {w w1 : World} {n₀ g : Nat} {vs v1 : Value} (h : Left w w1 n₀ g vs v1) (n : Nat) : Left w (w1.drewN n) n₀ g vs v1 := h.trans ⟨keep_drewN (KeepBut.refl _ _ _) n, pw_below_drewN (Below.refl _ _) n, .inl rfl⟩
theorem setrow_keep {w : World} {g b j : Nat} {vs : Value} (h : vs.ownBlock = some b) (u : Value) : KeepBut w (w.setCell ⟨b, j, none⟩ u) g vs.ownBlock := by
  refine ⟨by simp, fun i hi hg hr => Below.heap_setCell w ⟨b, j, none⟩ u i (fun e => hr (by rw [h, e]))⟩
theorem Left.setrow {w w1 : World} {n₀ g b j n cap o : Nat} {vs : Value} (h : Left w w1 n₀ g vs (.slice (some ⟨b, o, none⟩) n cap)) (hb : n₀ ≤ b) (u : Value) : Left w (w1.setCell ⟨b, j, none⟩ u) n₀ g vs (.slice (some ⟨b, o, none⟩) n cap) :=
  h.trans ⟨setrow_keep rfl u, (Below.refl _ _).setCell (p := ⟨b, j, none⟩) hb u, .inl rfl⟩
set_option maxHeartbeats 1000000 in
set_option maxRecDepth 100000 in
theorem mark_walk {n₀ g : Nat} {c : Cfg} {bs nw : Int} {vs : Value} {its : List S54} (a b : Int) (w : World) (hI : IsSd w n₀ g c bs nw vs its) (hbs : 0 ≤ bs ∧ bs + its.length ≤ 4611686018427387904) (ha : -9223372036854775808 ≤ a ∧ a ≤ 9223372036854775807) (hn : n₀ ≤ w.heap.size) :
    Calls Try.prog 22 #[.pointer (some ⟨g, 0, none⟩), .int .i64 a, .int .i64 b] w fun e w' => e = .returned (.tuple #[]) ∧ IsSd w' n₀ g c bs nw vs (markL bs its a b) ∧ Left w w' n₀ g vs vs := by
  have HI := Aside0.mk hI
  have hg4 := blk_cell hI.blk 4
  have hgn := hI.ge
  clear hI
  obtain ⟨m, hm⟩ : ∃ m, mx a bs = m := ⟨_, rfl⟩
  have hm' : (if a < bs then bs else a) = m := hm
  have HM := Aside0.mk (show a ≤ m ∧ bs ≤ m ∧ (m = a ∨ m = bs) by unfold mx at hm; split at hm <;> omega)
  clear hm
  go_enter Try.func22, Try.ntmps22
  go_wp2
  clear hg4 hm'
  go_loopw [6] (fun i wr => ∃ k : Int, i = .int .i64 k ∧ Aside0 (m ≤ k ∧ (k ≤ bs + its.length ∨ k = m)) ∧ Aside0 (k = m ∨ k ≤ b) ∧ Aside0 (IsSd wr n₀ g c bs nw vs (markL bs its a k)) ∧ Aside0 (Left w wr n₀ g vs vs)) (fun i _ => (bs + its.length - intOf i).toNat)
  case atStart => exact ⟨m, rfl, ⟨by omega, .inr rfl⟩, ⟨.inl rfl⟩, ⟨by rw [markL_none (fun i hi => by have := HM.out; omega)]; exact HI.out⟩, ⟨Left.refl _ _ _ _⟩⟩
  case round =>
    obtain ⟨k, rfl, HK, HKB, HS, HL⟩ := hrel
    have hc4 := blk_cell HS.out.blk 4
    have hc6 := blk_cell HS.out.blk 6
    obtain ⟨A, cp, e, hcp⟩ := Kd.Q_slice HS.out.row
    rw [markL_length] at e hcp
    subst e
    obtain ⟨q, hq⟩ : ∃ q, mn b (bs + its.length) = q := ⟨_, rfl⟩
    have hq' : (if bs + its.length < b then bs + (its.length : Int) else b) = q := hq
    have HQ := Aside0.mk (show q ≤ b ∧ q ≤ bs + its.length ∧ (q = b ∨ q = bs + its.length) by unfold mn at hq; split at hq <;> omega)
    clear hq
    have hw1 : wrap64 (bs + its.length) = bs + its.length := wrap64_in (by omega) (by omega)
    have hw2 : IntKind.i64.wrap (bs + its.length) = bs + its.length := (i64_w _).trans hw1
    by_cases hlt : k < q
    · have hd : decide (k < q) = true := decide_eq_true hlt
      have hM := HM.out
      have hQ := HQ.out
      have hK := HK.out
      obtain ⟨j, rfl⟩ : ∃ j : Nat, k = bs + j := ⟨(k - bs).toNat, by omega⟩
      have hj : j < its.length := by omega
      have haj : a ≤ bs + j := by omega
      obtain ⟨gb, o, cap, e, hb, hlt2, _⟩ := Kd.Q_form HS.out.row (by rw [markL_length]; omega)
      rw [markL_length] at e
      injection e with e1 e2 e3
      subst e1 e3
      have hrow := HS.out.row
      obtain ⟨⟨hx0, _, _, _⟩, hxf⟩ := k54_cells hrow j hj
      have hxf0 := hxf 0
      rw [Nat.add_zero] at hxf0
      have hne : gb ≠ g := fun e => Kd.Q_ne hrow HS.out.blk (by decide) (by rw [← e]; rfl)
      have hwj : IntKind.i64.wrap (bs + (j : Int) - bs) = (j : Int) := by rw [i64_w]; exact (wrap64_in (by omega) (by omega)).trans (by omega)
      have HRow := Aside0.mk hrow
      have HQk := Aside0.mk (show bs + (j : Int) + 1 ≤ b ∧ bs + (j : Int) + 1 ≤ bs + its.length by omega)
      clear hrow hxf hM hQ hK
      go_wp2
      go_quiet (fail)
      go_wp2
      go_region_law (fail)
      go_wp2
      all_goals
        refine ⟨⟨bs + ((j + 1 : Nat) : Int), congrArg (Value.int .i64) (by push_cast; omega), ⟨by have := HM.out; have := HK.out; have := HQk.out; omega⟩, ⟨.inr (by have := HQk.out; push_cast; omega)⟩, ⟨?_⟩, ⟨(HL.out.drawn _).setrow hb _⟩⟩, by simp [intOf]; omega⟩
        have h := (HS.out.drewN (nq + 1)).set1 j hj 0 (.bool true) { ((markL bs its a (bs + j)).getD j z54) with f0 := true } (by omega) rfl
        rw [← markL_step j hj haj] at h
        have e : bs + ((j + 1 : Nat) : Int) = bs + (j : Int) + 1 := by push_cast; omega
        rw [e]
        exact h
    · have hd : decide (k < q) = false := decide_eq_false hlt
      go_wp2
      go_quiet (fail)
      go_wp2
      go_end0
      refine ⟨rfl, ?_, HL.out.drawn _⟩
      have hM := HM.out
      have hQ := HQ.out
      have hK := HK.out
      have hKB := HKB.out
      rw [markL_congr (b' := k) (fun i hi => by omega)]
      exact HS.out.drewN _
end Go.Proofs.Ytfmggodmhklfoaa.Lib
