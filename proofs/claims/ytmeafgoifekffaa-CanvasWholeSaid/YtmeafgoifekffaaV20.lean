/- CanvasWhole: Woven: walked by hand. -/
import Derived.Test.YtmeafgoifekffaaV19
namespace Go.Proofs.Ytmeafgoifekffaa.Lib
open Go.RowKit Go.Shelf Go.Proofs.YtmeafgoifekffaaW.PrintWords Go.Proofs.YtmeafgoifekffaaW.PrintLast Go.Proofs.YtmeafgoifekffaaW.PrintMore
set_option linter.unusedVariables false
set_option linter.unusedSimpArgs false
set_option maxHeartbeats 4000000 in
set_option maxRecDepth 100000 in
theorem woven_plain (x y : Nat) (hx : 1 ≤ x ∧ x ≤ 30) (hy : 1 ≤ y ∧ y ≤ 30) (w : World) :
    Calls Try.prog 18 #[.int .i64 x, .int .i64 y, .bool false] w fun e w' => LinesP w (allL x y plainL) e w' := by
  have HP := Aside0.mk (lines_plain x y hx hy w)
  go_enter Try.func18, Try.ntmps18
  go_wp2_with (first
    | (go_at_call 17; refine HP.out.mono ?_; rintro e w1 ⟨A, c, ts, rfl, h1, h2⟩; have H1 := Aside0.mk h1; have H2 := Aside0.mk h2; clear h1 h2))
  go_ret
  exact ⟨A, c, ts, rfl, H1.out, H2.out⟩
theorem weave_bd : ∀ q : Nat, q < 4 → ∃ gy dy, weaveL.getD q (0, 0, 1, 1) = (0, gy, 1, dy) ∧ gy < dy ∧ dy ≤ 8 ∧ (#[Value.int .i64 0, .int .i64 8, .int .i64 4, .int .i64 8, .int .i64 2, .int .i64 4, .int .i64 1, .int .i64 2])[q * 2]? = some (.int .i64 (gy : Nat)) ∧ (#[Value.int .i64 0, .int .i64 8, .int .i64 4, .int .i64 8, .int .i64 2, .int .i64 4, .int .i64 1, .int .i64 2])[q * 2 + 1]? = some (.int .i64 (dy : Nat)) := by
  intro q hq
  obtain rfl | rfl | rfl | rfl : q = 0 ∨ q = 1 ∨ q = 2 ∨ q = 3 := by omega
  · exact ⟨0, 8, rfl, by omega, by omega, rfl, rfl⟩
  · exact ⟨4, 8, rfl, by omega, by omega, rfl, rfl⟩
  · exact ⟨2, 4, rfl, by omega, by omega, rfl, rfl⟩
  · exact ⟨1, 2, rfl, by omega, by omega, rfl, rfl⟩
set_option maxHeartbeats 8000000 in
set_option maxRecDepth 100000 in
theorem woven_laced (x y : Nat) (hx : 1 ≤ x ∧ x ≤ 30) (hy : 1 ≤ y ∧ y ≤ 30) (w : World) :
    Calls Try.prog 18 #[.int .i64 x, .int .i64 y, .bool true] w fun e w' => LinesP w (allL x y weaveL) e w' := by
  have HSZ := Aside0.mk (fun W => sized_ok hx hy W)
  go_enter Try.func18, Try.ntmps18
  go_wp2_with (first
    | (go_at_call 25; refine (HSZ.out _).mono ?_; rintro e w1 ⟨rfl, hb1⟩; have HB1 := Aside0.mk hb1; clear hb1))
  obtain ⟨wa, hwa⟩ : ∃ wa, w1.alloc (.cells #[.int .i64 0, .int .i64 8, .int .i64 4, .int .i64 8, .int .i64 2, .int .i64 4, .int .i64 1, .int .i64 2] 73) = wa := ⟨_, rfl⟩
  have HBL := Aside0.mk (show wa.heap[w1.heap.size]? = some (.cells #[.int .i64 0, .int .i64 8, .int .i64 4, .int .i64 8, .int .i64 2, .int .i64 4, .int .i64 1, .int .i64 2] 73 (0, 0)) from by rw [← hwa]; exact heap_alloc_new _ _)
  have HBA := Aside0.mk (show Below w.heap.size w wa from by rw [← hwa]; exact below_alloc HB1.out _)
  rw [hwa]
  clear hwa
  go_loopw [7, 26] (fun v i wr => ∃ (q : Nat) (u : Value) (ts : List Ln), u = v ∧ i = .int .i64 q ∧ q ≤ 4 ∧ Aside0 (LS wr w.heap.size u ts (allL x y (weaveL.take q))) ∧ Aside0 (Below w.heap.size w wr) ∧ Aside0 (wr.heap[w1.heap.size]? = some (.cells #[.int .i64 0, .int .i64 8, .int .i64 4, .int .i64 8, .int .i64 2, .int .i64 4, .int .i64 1, .int .i64 2] 73 (0, 0)))) (fun _ i _ => 4 - (intOf i).toNat)
  case atStart => exact ⟨0, _, [], rfl, rfl, by omega, ⟨LS.nil _ _⟩, HBA, HBL⟩
  case round =>
    clear HB1 HBA HBL
    obtain ⟨q, u, ts, rfl, rfl, hq4, HL, HB, HBL⟩ := hrel
    obtain ⟨wo, rfl⟩ : ∃ wo : World, wo = wr := ⟨_, rfl⟩
    by_cases hlt : q < 4
    · obtain ⟨gy, dy, hg, g2, g4, hc0, hc1⟩ := weave_bd q hlt
      have hk0 := (blk_cell HBL.out (q * 2)).trans hc0
      have hk1 := (blk_cell HBL.out (q * 2 + 1)).trans hc1
      have HA := Aside0.mk (allL_snoc x y weaveL q hlt hg)
      have HLN := Aside0.mk (show (allL x y (weaveL.take q)).length ≤ 120 from by
        have h := allL_len x y (weaveL.take q) (fun g hg => by have h := grids_ok true true g (List.mem_of_mem_take hg); omega)
        have h2 : (weaveL.take q).length ≤ 4 := by rw [List.length_take]; omega
        have h3 := Nat.mul_le_mul h2 hy.2
        omega)
      obtain ⟨prev, hprev⟩ : ∃ prev, allL x y (weaveL.take q) = prev := ⟨_, rfl⟩
      rw [hprev] at HL HA HLN
      have HROW := Aside0.mk (fun (Y : Nat) W => row_walk (a := 0) (s := 1) (Y := Y) (w := x) (n := num 0 1 x) ((q : Int) + 1) (by omega) (by omega) (by omega) (by omega) rfl W)
      have hq0 : (0 : Int) ≤ (q : Int) := by omega
      have hq1 : (q : Int) < 4 := by omega
      clear hg hprev hc0 hc1
      go_wp2
      obtain ⟨wb, hwb⟩ : ∃ wb, wo.alloc (.cells #[.int .i64 gy, .int .i64 dy] 73) = wb := ⟨_, rfl⟩
      have HWB := Aside0.mk (show Below wo.heap.size wo wb from by rw [← hwb]; exact below_alloc (Below.refl _ _) _)
      have HBX0 := Aside0.mk (show wb.heap[wo.heap.size]? = some (.cells #[.int .i64 gy, .int .i64 dy] 73 (0, 0)) from by rw [← hwb]; exact heap_alloc_new _ _)
      have HL0 := Aside0.mk (show LS wb w.heap.size u ts (prev ++ passT x 0 gy 1 dy 0) from by rw [show passT x 0 gy 1 dy 0 = [] from rfl, List.append_nil]; exact HL.out.ext HWB.out)
      have HB0 := Aside0.mk (below_then HB.out HB.out.size HWB.out)
      have HBL0 := Aside0.mk (blk_below HBL.out HWB.out)
      rw [hwb]
      clear hwb HWB HL HB HBL hk0 hk1
      have HPA := Aside0.mk (passT_all (y := y) (gy := gy) (dx := 1) (dy := dy) (show 0 < x by omega))
      have HNL := Aside0.mk (num_le (a := gy) (w := y) (show 0 < dy by omega))
      go_loopw [7, 10] (fun v i wr2 => ∃ (t : Nat) (u : Value) (ts : List Ln), u = v ∧ i = .int .i64 (gy + dy * t : Nat) ∧ t ≤ num gy dy y ∧ Aside0 (LS wr2 w.heap.size u ts (prev ++ passT x 0 gy 1 dy t)) ∧ Aside0 (Below w.heap.size w wr2) ∧ Aside0 (wr2.heap[wo.heap.size]? = some (.cells #[.int .i64 gy, .int .i64 dy] 73 (0, 0))) ∧ Aside0 (wr2.heap[w1.heap.size]? = some (.cells #[.int .i64 0, .int .i64 8, .int .i64 4, .int .i64 8, .int .i64 2, .int .i64 4, .int .i64 1, .int .i64 2] 73 (0, 0)))) (fun _ i _ => y + 8 - (intOf i).toNat)
      case atStart => exact ⟨0, _, _, rfl, rfl, Nat.zero_le _, HL0, HB0, HBX0, HBL0⟩
      case round =>
        clear HL0 HB0 HBX0 HBL0
        obtain ⟨t, u, ts, rfl, rfl, ht, HL, HB, HBX, HBL⟩ := hrel
        obtain ⟨wi, rfl⟩ : ∃ wi : World, wi = wr := ⟨_, rfl⟩
        have hb1 := blk_cell HBX.out 1
        by_cases hlt2 : t < num gy dy y
        · have hYy := (lt_num (by omega : 0 < dy)).1 hlt2
          have hts : ts.length ≤ 150 := by have h := HL.out.len; rw [List.length_append, passT_len] at h; have := HLN.out; have := HNL.out; omega
          obtain ⟨Y, hY⟩ : ∃ Y, gy + dy * t = Y := ⟨_, rfl⟩
          have HY := Aside0.mk hY
          have HY2 := Aside0.mk (show gy + dy * (t + 1) = Y + dy by rw [Nat.mul_succ]; omega)
          rw [hY] at hYy ⊢
          clear hY
          have d1 : decide ((Y : Int) < (y : Int)) = true := decide_eq_true (by omega)
          go_wp2_with (first
            | (go_at_call 30; refine (HROW.out Y _).mono ?_; rintro e w3 ⟨A, c, rfl, hR, hb3⟩; have HR3 := Aside0.mk hR; have HB3 := Aside0.mk hb3; clear hR hb3)
            | (at_builtin; refine Kd.R_append kf (w0 := w) w.heap.size rfl (.tmp 40) (.tmp 46) 46 49 (.agg #[.int .i64 0, .slice none 0 0]) 32 rfl Try.underlying46 info49_ rfl (by decide) (by omega) u ts ⟨(q : Int) + 1, A, num 0 1 x, c⟩ [.int .i64 ((q : Int) + 1), .slice A (num 0 1 x) c] (fun _ => True) (fun _ => False) rfl rfl (kf_mkM _ _ _ _) (fun _ hk => hk.elim) (fun _ _ => trivial) ((HL.out.ext HB3.out).row) (below_then HB.out HB.out.size HB3.out) (Nat.le_trans HB.out.size HB3.out.size) (by omega) ?_; intro v4 w4 ho hb4 hg hat; have HL4 := Aside0.mk (HL.out.push HB.out.size HB3.out HR3.out ho hg); have HB4 := Aside0.mk hb4; have HBX4 := Aside0.mk (blk_grown (blk_below HBX.out HB3.out) hg (Kd.R_ne (HL.out.ext HB3.out).row (blk_below HBX.out HB3.out) (by decide))); have HBL4 := Aside0.mk (blk_grown (blk_below HBL.out HB3.out) hg (Kd.R_ne (HL.out.ext HB3.out).row (blk_below HBL.out HB3.out) (by decide))); have hq3 := blk_cell HBX4.out 1; clear ho hb4 hg hat))
          exact ⟨⟨t + 1, _, _, rfl, by rw [HY2.out]; push_cast; rfl, by omega, ⟨by rw [passT_succ, ← List.append_assoc, HY.out]; exact HL4.out⟩, HB4, HBX4, HBL4⟩, by simp [intOf]; omega⟩
        · obtain rfl : t = num gy dy y := by omega
          have hYy : ¬ gy + dy * num gy dy y < y := fun h => by have := (lt_num (by omega : 0 < dy)).2 h; omega
          have d1 : decide (((gy + dy * num gy dy y : Nat) : Int) < (y : Int)) = false := decide_eq_false (by omega)
          have HL9 := Aside0.mk (show LS wi w.heap.size u ts (allL x y (weaveL.take (q + 1))) from by rw [HA.out, ← HPA.out]; exact HL.out)
          obtain ⟨Y, hY⟩ : ∃ Y, gy + dy * num gy dy y = Y := ⟨_, rfl⟩
          rw [hY] at d1 hYy ⊢
          clear hY HL
          go_wp2
          exact ⟨⟨q + 1, _, _, rfl, by push_cast; rfl, by omega, HL9, HB, HBL⟩, by simp [intOf]; omega⟩
    · obtain rfl : q = 4 := by omega
      go_wp2
      go_ret
      obtain ⟨A, c, rfl⟩ := HL.out.form (W0 := w)
      exact ⟨A, c, ts, rfl, HL.out, HB.out⟩
end Go.Proofs.Ytmeafgoifekffaa.Lib
