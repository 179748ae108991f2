/- CanvasWhole: Lines, Woven: walked by hand. -/
import Derived.Test.YtmeafgoifekffaaV18
namespace Go.Proofs.Ytmeafgoifekffaa.Lib
open Go.RowKit Go.Shelf Go.Proofs.YtmeafgoifekffaaW.PrintWords Go.Proofs.YtmeafgoifekffaaW.PrintLast Go.Proofs.YtmeafgoifekffaaW.PrintMore
set_option linter.unusedVariables false
set_option linter.unusedSimpArgs false
/-- the first t rows of a pass -/
def passT (x gx gy dx dy t : Nat) : List (List S51) := (stp gy dy t).map fun Y => rowS gx dx Y (num gx dx x)
theorem passT_succ (x gx gy dx dy t : Nat) : passT x gx gy dx dy (t + 1) = passT x gx gy dx dy t ++ [rowS gx dx (gy + dy * t) (num gx dx x)] := by simp [passT, stp_succ]
theorem passT_all {x y gx gy dx dy : Nat} (h : gx < x) : passT x gx gy dx dy (num gy dy y) = passL x y (gx, gy, dx, dy) := by simp [passT, passL, h]
theorem num_one (y : Nat) : num 0 1 y = y := by simp [num]
theorem sized_ok {x y : Nat} (hx : 1 ≤ x ∧ x ≤ 30) (hy : 1 ≤ y ∧ y ≤ 30) (w : World) : Calls Try.prog 25 #[.int .i64 x, .int .i64 y] w fun e w' => e = .returned (.bool true) ∧ Below w.heap.size w w' := by
  have h2 : x * y ≤ 30 * 30 := Nat.mul_le_mul hx.2 hy.2
  have h3 : ((x * y : Nat) : Int) = (x : Int) * y := by push_cast; rfl
  refine (halftoneref14_Sized.calls x y true w ?_).mono ?_
  · unfold halftoneref14_Sized.f
    rw [if_pos (by omega), if_pos (by omega), if_pos (by omega), if_pos (by omega), ← h3, wrap64_in' (by omega) (by omega), decide_eq_true (by omega)]
  · rintro e w' ⟨rfl, n, rfl⟩
    exact ⟨rfl, pw_below_drewN (Below.refl _ _) n⟩
/-- what Lines tells -/
def LinesP (W : World) (ls : List (List S51)) (e : Ending) (W' : World) : Prop := ∃ (A : Option Addr) (c : Nat) (ts : List Ln), e = .returned (.slice A ls.length c) ∧ LS W' W.heap.size (.slice A ls.length c) ts ls ∧ Below W.heap.size W W'
theorem LS.form {W W0 : World} {base : Nat} {v : Value} {ts : List Ln} {ls : List (List S51)} (h : LS W base v ts ls) : ∃ A c, v = .slice A ls.length c := by
  obtain ⟨A, c, rfl⟩ := Kd.R_slice h.row
  rw [h.len]
  exact ⟨A, c, rfl⟩
set_option maxHeartbeats 4000000 in
set_option maxRecDepth 100000 in
theorem lines_plain (x y : Nat) (hx : 1 ≤ x ∧ x ≤ 30) (hy : 1 ≤ y ∧ y ≤ 30) (w : World) :
    Calls Try.prog 17 #[.int .i64 x, .int .i64 y, .bool false] w fun e w' => LinesP w (allL x y plainL) e w' := by
  have HSZ := Aside0.mk (fun W => sized_ok hx hy W)
  have HEND := Aside0.mk (show passT x 0 0 1 1 y = allL x y plainL from by
    have h := passT_all (y := y) (gy := 0) (dx := 1) (dy := 1) (show 0 < x by omega)
    rw [num_one] at h
    simp [h, allL, plainL])
  have HROW := Aside0.mk (fun (Y : Nat) W => row_walk (a := 0) (s := 1) (Y := Y) (w := x) (n := num 0 1 x) 1 (by omega) (by omega) (by omega) (by omega) rfl W)
  go_enter Try.func17, Try.ntmps17
  go_wp2_with (first
    | (go_at_call 25; refine (HSZ.out _).mono ?_; rintro e w1 ⟨rfl, hb1⟩; have HB1 := Aside0.mk hb1; clear hb1))
  go_loopw [7, 8] (fun v i wr => ∃ (t : Nat) (u : Value) (ts : List Ln), u = v ∧ i = .int .i64 t ∧ t ≤ y ∧ Aside0 (LS wr w.heap.size u ts (passT x 0 0 1 1 t)) ∧ Aside0 (Below w.heap.size w wr)) (fun _ i _ => y - (intOf i).toNat)
  case atStart => exact ⟨0, _, [], rfl, rfl, Nat.zero_le _, ⟨LS.nil _ _⟩, HB1⟩
  case round =>
    clear HB1
    obtain ⟨t, u, ts, rfl, rfl, ht, HL, HB⟩ := hrel
    by_cases hlt : t < y
    · have hts : ts.length ≤ 30 := by have h := HL.out.len; simp [passT, stp_length] at h; omega
      go_wp2_with (first
        | (go_at_call 30; refine (HROW.out t _).mono ?_; rintro e w2 ⟨A, c, rfl, hR, hb2⟩; have HR2 := Aside0.mk hR; have HB2 := Aside0.mk hb2; clear hR hb2)
        | (at_builtin; refine Kd.R_append kf (w0 := w) w.heap.size rfl (.tmp 23) (.tmp 27) 46 49 (.agg #[.int .i64 0, .slice none 0 0]) 32 rfl Try.underlying46 info49_ rfl (by decide) (by omega) u ts ⟨1, A, num 0 1 x, c⟩ [.int .i64 1, .slice A (num 0 1 x) c] (fun _ => True) (fun _ => False) rfl rfl (kf_mkM _ _ _ _) (fun _ hk => hk.elim) (fun _ _ => trivial) ((HL.out.ext HB2.out).row) (below_then HB.out HB.out.size HB2.out) (Nat.le_trans HB.out.size HB2.out.size) (by omega) ?_; intro v3 w3 ho hb3 hg hat; have HL3 := Aside0.mk (HL.out.push HB.out.size HB2.out HR2.out ho hg); have HB3 := Aside0.mk hb3; clear ho hb3 hg hat))
      exact ⟨⟨t + 1, _, _, rfl, by push_cast; rfl, by omega, ⟨by rw [passT_succ, Nat.zero_add, Nat.one_mul]; exact HL3.out⟩, HB3⟩, by simp [intOf]; omega⟩
    · obtain rfl : t = y := by omega
      go_wp2
      go_ret
      rw [HEND.out] at HL
      obtain ⟨A, c, rfl⟩ := HL.out.form (W0 := w)
      exact ⟨A, c, ts, rfl, HL.out, HB.out⟩
theorem allL_snoc (x y : Nat) (gs : List (Nat × Nat × Nat × Nat)) (q : Nat) (hq : q < gs.length) {g : Nat × Nat × Nat × Nat} (hg : gs.getD q (0, 0, 1, 1) = g) : allL x y (gs.take (q + 1)) = allL x y (gs.take q) ++ passL x y g := by
  have e : gs[q] = g := by rw [← hg, List.getD_eq_getElem?_getD, List.getElem?_eq_getElem hq]; rfl
  unfold allL
  rw [List.take_succ_eq_append_getElem hq, List.flatMap_append, e]
  simp
theorem grid_bd : ∀ p : Nat, p < 7 → (gridL.getD p (0, 0, 1, 1)).1 < (gridL.getD p (0, 0, 1, 1)).2.2.1 ∧ (gridL.getD p (0, 0, 1, 1)).2.1 < (gridL.getD p (0, 0, 1, 1)).2.2.2 ∧ (gridL.getD p (0, 0, 1, 1)).2.2.1 ≤ 8 ∧ (gridL.getD p (0, 0, 1, 1)).2.2.2 ≤ 8 := by decide
theorem passT_len (x gx gy dx dy t : Nat) : (passT x gx gy dx dy t).length = t := by simp [passT, stp_length]
theorem num_le {a s w : Nat} (hs : 0 < s) : num a s w ≤ w := by
  rcases Nat.lt_or_ge w (num a s w) with h | h
  · have h3 := (lt_num (a := a) (t := w) (w := w) hs).1 h
    have h4 : 1 * w ≤ s * w := Nat.mul_le_mul_right _ (by omega)
    omega
  · exact h
theorem passL_len (x y : Nat) (g : Nat × Nat × Nat × Nat) (hg : 0 < g.2.2.2) : (passL x y g).length ≤ y := by
  unfold passL
  split
  · simp [stp_length]
    exact num_le hg
  · simp
theorem allL_len (x y : Nat) : ∀ gs : List (Nat × Nat × Nat × Nat), (∀ g ∈ gs, 0 < g.2.2.2) → (allL x y gs).length ≤ gs.length * y
  | [], _ => by simp [allL]
  | g :: gs, h => by
    have h1 := allL_len x y gs (fun g hg => h g (List.mem_cons_of_mem _ hg))
    have h2 := passL_len x y g (h g (by simp))
    unfold allL at h1 ⊢
    rw [List.flatMap_cons, List.length_append, List.length_cons, Nat.add_mul]
    omega
set_option maxHeartbeats 8000000 in
set_option maxRecDepth 100000 in
theorem lines_laced (x y : Nat) (hx : 1 ≤ x ∧ x ≤ 30) (hy : 1 ≤ y ∧ y ≤ 30) (w : World) :
    Calls Try.prog 17 #[.int .i64 x, .int .i64 y, .bool true] w fun e w' => LinesP w (allL x y gridL) e w' := by
  have HSZ := Aside0.mk (fun W => sized_ok hx hy W)
  go_enter Try.func17, Try.ntmps17
  go_wp2_with (first
    | (go_at_call 25; refine (HSZ.out _).mono ?_; rintro e w1 ⟨rfl, hb1⟩; have HB1 := Aside0.mk hb1; clear hb1))
  go_loopw [7, 9] (fun v i wr => ∃ (p : Nat) (u : Value) (ts : List Ln), u = v ∧ i = .int .i64 p ∧ 1 ≤ p ∧ p ≤ 8 ∧ Aside0 (LS wr w.heap.size u ts (allL x y (gridL.take (p - 1)))) ∧ Aside0 (Below w.heap.size w wr)) (fun _ i _ => 8 - (intOf i).toNat)
  case atStart => exact ⟨1, _, [], rfl, rfl, by omega, by omega, ⟨LS.nil _ _⟩, HB1⟩
  case round =>
    clear HB1
    obtain ⟨p, u, ts, rfl, rfl, hp1, hp8, HL, HB⟩ := hrel
    by_cases hlt : p < 8
    · obtain ⟨⟨gx, gy, dx, dy⟩, hg⟩ : ∃ g, gridL.getD (p - 1) (0, 0, 1, 1) = g := ⟨_, rfl⟩
      obtain ⟨g1, g2, g3, g4⟩ := grid_bd (p - 1) (by omega)
      rw [hg] at g1 g2 g3 g4
      simp only at g1 g2 g3 g4
      have HG := Aside0.mk (fun W => grid_walk p hp1 (by omega) W hg)
      have HA := Aside0.mk (show allL x y (gridL.take p) = allL x y (gridL.take (p - 1)) ++ passL x y (gx, gy, dx, dy) from by
        have h := allL_snoc x y gridL (p - 1) (by show p - 1 < 7; omega) hg
        rwa [show p - 1 + 1 = p by omega] at h)
      have HLN := Aside0.mk (show (allL x y (gridL.take (p - 1))).length ≤ 240 from by
        have h := allL_len x y (gridL.take (p - 1)) (fun g hg => by have h := grids_ok true false g (List.mem_of_mem_take hg); omega)
        have h2 : (gridL.take (p - 1)).length ≤ 8 := by rw [List.length_take]; omega
        have h3 := Nat.mul_le_mul h2 hy.2
        omega)
      obtain ⟨prev, hprev⟩ : ∃ prev, allL x y (gridL.take (p - 1)) = prev := ⟨_, rfl⟩
      rw [hprev] at HL HA HLN
      have HROW := Aside0.mk (fun (Y : Nat) W => row_walk (a := gx) (s := dx) (Y := Y) (w := x) (n := num gx dx x) p (by omega) (by omega) (by omega) (by omega) rfl W)
      clear hg hprev
      go_wp2_with (first
        | (go_at_call 31; refine (HG.out _).mono ?_; rintro e w2 ⟨rfl, hb2⟩; have HB2 := Aside0.mk hb2; clear hb2))
      obtain ⟨wb, hwb⟩ : ∃ wb, w2.alloc (.cells #[.int .i64 gx, .int .i64 gy, .int .i64 dx, .int .i64 dy] 76) = wb := ⟨_, rfl⟩
      have HWB := Aside0.mk (show Below wr.heap.size wr wb from by rw [← hwb]; exact below_alloc HB2.out _)
      have HBX0 := Aside0.mk (show wb.heap[w2.heap.size]? = some (.cells #[.int .i64 gx, .int .i64 gy, .int .i64 dx, .int .i64 dy] 76 (0, 0)) from by rw [← hwb]; exact heap_alloc_new _ _)
      have HL0 := Aside0.mk (show LS wb w.heap.size u ts (prev ++ passT x gx gy dx dy 0) from by rw [show passT x gx gy dx dy 0 = [] from rfl, List.append_nil]; exact HL.out.ext HWB.out)
      have HB0 := Aside0.mk (below_then HB.out HB.out.size HWB.out)
      rw [hwb]
      clear hwb HWB HL HB HB2 HG
      by_cases hgx : gx < x
      · have d2 : decide ((gx : Int) < (x : Int)) = true := decide_eq_true (by omega)
        have HPA := Aside0.mk (passT_all (y := y) (gy := gy) (dx := dx) (dy := dy) hgx)
        have HNL := Aside0.mk (num_le (a := gy) (w := y) (show 0 < dy by omega))
        go_loopw [7, 11] (fun v i wr => ∃ (t : Nat) (u : Value) (ts : List Ln), u = v ∧ i = .int .i64 (gy + dy * t : Nat) ∧ t ≤ num gy dy y ∧ Aside0 (LS wr w.heap.size u ts (prev ++ passT x gx gy dx dy t)) ∧ Aside0 (Below w.heap.size w wr) ∧ Aside0 (wr.heap[w2.heap.size]? = some (.cells #[.int .i64 gx, .int .i64 gy, .int .i64 dx, .int .i64 dy] 76 (0, 0)))) (fun _ i _ => y + 8 - (intOf i).toNat)
        case atStart => exact ⟨0, _, _, rfl, rfl, Nat.zero_le _, HL0, HB0, HBX0⟩
        case round =>
          clear HL0 HB0 HBX0
          obtain ⟨t, u, ts, rfl, rfl, ht, HL, HB, HBX⟩ := hrel
          obtain ⟨wo, rfl⟩ : ∃ wo : World, wo = wr := ⟨_, rfl⟩
          have hb0 := blk_cell HBX.out 0
          have hb2 := blk_cell HBX.out 2
          have hb3 := blk_cell HBX.out 3
          by_cases hlt2 : t < num gy dy y
          · have hYy := (lt_num (by omega : 0 < dy)).1 hlt2
            have hts : ts.length ≤ 270 := by have h := HL.out.len; rw [List.length_append, passT_len] at h; have := HLN.out; have := HNL.out; omega
            obtain ⟨Y, hY⟩ : ∃ Y, gy + dy * t = Y := ⟨_, rfl⟩
            have HY := Aside0.mk hY
            have HY2 := Aside0.mk (show gy + dy * (t + 1) = Y + dy by rw [Nat.mul_succ]; omega)
            rw [hY] at hYy ⊢
            clear hY
            have d1 : decide ((Y : Int) < (y : Int)) = true := decide_eq_true (by omega)
            go_wp2_with (first
              | (go_at_call 30; refine (HROW.out Y _).mono ?_; rintro e w3 ⟨A, c, rfl, hR, hb3⟩; have HR3 := Aside0.mk hR; have HB3 := Aside0.mk hb3; clear hR hb3)
              | (at_builtin; refine Kd.R_append kf (w0 := w) w.heap.size rfl (.tmp 51) (.tmp 60) 46 49 (.agg #[.int .i64 0, .slice none 0 0]) 32 rfl Try.underlying46 info49_ rfl (by decide) (by omega) u ts ⟨p, A, num gx dx x, c⟩ [.int .i64 p, .slice A (num gx dx x) c] (fun _ => True) (fun _ => False) rfl rfl (kf_mkM _ _ _ _) (fun _ hk => hk.elim) (fun _ _ => trivial) ((HL.out.ext HB3.out).row) (below_then HB.out HB.out.size HB3.out) (Nat.le_trans HB.out.size HB3.out.size) (by omega) ?_; intro v4 w4 ho hb4 hg hat; have HL4 := Aside0.mk (HL.out.push HB.out.size HB3.out HR3.out ho hg); have HB4 := Aside0.mk hb4; have HBX4 := Aside0.mk (blk_grown (blk_below HBX.out HB3.out) hg (Kd.R_ne (HL.out.ext HB3.out).row (blk_below HBX.out HB3.out) (by decide))); have hq3 := blk_cell HBX4.out 3; clear ho hb4 hg hat))
            exact ⟨⟨t + 1, _, _, rfl, by rw [HY2.out]; push_cast; rfl, by omega, ⟨by rw [passT_succ, ← List.append_assoc, HY.out]; exact HL4.out⟩, HB4, HBX4⟩, by simp [intOf]; omega⟩
          · obtain rfl : t = num gy dy y := by omega
            have hYy : ¬ gy + dy * num gy dy y < y := fun h => by have := (lt_num (by omega : 0 < dy)).2 h; omega
            have d1 : decide (((gy + dy * num gy dy y : Nat) : Int) < (y : Int)) = false := decide_eq_false (by omega)
            have HL9 := Aside0.mk (show LS wo w.heap.size u ts (allL x y (gridL.take p)) from by rw [HA.out, ← HPA.out]; exact HL.out)
            obtain ⟨Y, hY⟩ : ∃ Y, gy + dy * num gy dy y = Y := ⟨_, rfl⟩
            rw [hY] at d1 hYy ⊢
            clear hY HL
            go_wp2
            exact ⟨⟨p + 1, _, _, rfl, by push_cast; rfl, by omega, by omega, ⟨by rw [Nat.add_sub_cancel]; exact HL9.out⟩, HB⟩, by simp [intOf]; omega⟩
      · have d2 : decide ((gx : Int) < (x : Int)) = false := decide_eq_false (by omega)
        have HL9 := Aside0.mk (show LS wb w.heap.size u ts (allL x y (gridL.take p)) from by
          rw [HA.out, show passL x y (gx, gy, dx, dy) = [] by simp [passL, hgx]]
          exact HL0.out)
        go_loopw [7, 11] (fun v i wr => ∃ (u2 : Value), u2 = v ∧ u2 = u ∧ i = .int .i64 gy ∧ wr = wb) (fun _ i _ => y + 8 - (intOf i).toNat)
        case atStart => exact ⟨_, rfl, rfl, rfl, rfl⟩
        case round =>
          obtain ⟨u2, rfl, rfl, rfl, rfl⟩ := hrel
          have hb0 := blk_cell HBX0.out 0
          by_cases hgy : gy < y
          · have d1 : decide ((gy : Int) < (y : Int)) = true := decide_eq_true (by omega)
            go_wp2
            exact ⟨⟨p + 1, _, _, rfl, by push_cast; rfl, by omega, by omega, ⟨by rw [Nat.add_sub_cancel]; exact HL9.out⟩, HB0⟩, by simp [intOf]; omega⟩
          · have d1 : decide ((gy : Int) < (y : Int)) = false := decide_eq_false (by omega)
            go_wp2
            exact ⟨⟨p + 1, _, _, rfl, by push_cast; rfl, by omega, by omega, ⟨by rw [Nat.add_sub_cancel]; exact HL9.out⟩, HB0⟩, by simp [intOf]; omega⟩
    · obtain rfl : p = 8 := by omega
      go_wp2
      go_ret
      obtain ⟨A, c, rfl⟩ := HL.out.form (W0 := w)
      exact ⟨A, c, ts, rfl, HL.out, HB.out⟩
end Go.Proofs.Ytmeafgoifekffaa.Lib
