/- CanvasStays: the walk. -/
import Derived.Test.YtmeafgoifekffaaA5
namespace Go.Proofs.Ytmeafgoifekffaa.Lib
open Go.RowKit Go.Shelf Go.Proofs.YtmeafgoifekffaaW.PrintWords Go.Proofs.YtmeafgoifekffaaW.PrintLast Go.Proofs.YtmeafgoifekffaaW.PrintMore
attribute [local go_sem high] eqA45
attribute [local go_sem] max2_mx min2_mn max_two min_two
set_option linter.unusedVariables false
set_option linter.unusedSimpArgs false
set_option maxHeartbeats 4000000 in
set_option maxRecDepth 100000 in
theorem stays_row (a b : Int) (A3 : Option Addr) (c3 : Nat) (xs : List S35) (w : World) (h0 : 0 ≤ a ∧ a ≤ 255) (h1 : 0 ≤ b ∧ b ≤ 255) (hr : Kd.C k35 w A3 xs.length xs) (hc3 : xs.length ≤ c3) (hok : ∀ x ∈ xs, LineOk x) :
    Calls Try.prog 6 #[.int .u8 a, .int .u8 b, .slice A3 xs.length c3] w fun e w' => e = .returned (.bool true) ∧ Below w.heap.size w w' := by
  obtain ⟨x, hx⟩ : ∃ x : Nat, 1 + a % 30 = x := ⟨(1 + a % 30).toNat, by omega⟩
  obtain ⟨y, hy⟩ : ∃ y : Nat, 1 + b % 30 = y := ⟨(1 + b % 30).toNat, by omega⟩
  have HC := Aside0.mk (show CvOk x y by
    have h2 : x * y ≤ 30 * 30 := Nat.mul_le_mul (by omega) (by omega)
    refine ⟨by omega, by omega, by omega, by omega, ?_⟩
    have h3 : ((x * y : Nat) : Int) = (x : Int) * y := by push_cast; rfl
    omega)
  have HF := Aside0.mk (show ∀ W : World, Below w.heap.size w W → Calls Try.prog 11 #[.slice A3 xs.length c3] W fun e w' => FewPost xs W e w' from fun W hW => few_walk A3 c3 xs w W hr hc3 hW hok)
  have HR := Aside0.mk hr
  obtain ⟨l, hl⟩ : ∃ l, xs.length = l := ⟨_, rfl⟩
  rw [hl] at HR HF ⊢
  have HN := Aside0.mk hl
  clear hr hok hl hc3
  go_enter Try.func6, Try.ntmps6
  go_wp2_with (first
    | (go_at_call 8; refine (halftonelaw19_fixed.calls true _ rfl).mono ?_; rintro e w1 ⟨rfl, hb1⟩; have HB1 := Aside0.mk hb1; clear hb1)
    | (go_at_call 9; refine (new_walk w.heap.size x y w1 HC.out HB1.out.size).mono ?_; rintro e w2 ⟨c, rfl, hcx, hcy, hI, hb2⟩; have HU2 := Aside0.mk (show Uno w w2 c (List.replicate c.n z45) (List.replicate c.n false) from ⟨by rw [cnt_new]; exact hI.low HB1.out.size, below_then HB1.out HB1.out.size hb2⟩); clear hcx hcy hI hb2)
    | (go_at_call 11; refine (HF.out _ HU2.out.bl).mono ?_; rintro e w4 ⟨b, rfl, hb, hb4⟩; have HU4 := Aside0.mk (show Uno w w4 c (List.replicate c.n z45) (List.replicate c.n false) from ⟨HU2.out.cv.ext hb4, below_then HU2.out.bl HU2.out.bl.size hb4⟩); clear hb4; rcases b with _ | _))
  · go_ret
    exact ⟨rfl, HU4.out.bl⟩
  have HFW := Aside0.mk (hb trivial)
  clear hb HF HB1 HU2
  have hl61 : l ≤ 61 := by rw [← HN.out]; exact HFW.out.1
  go_loopw [47] (fun i wr => ∃ (k : Nat) (ps : List S45) (ks : List Bool), i = .int .i64 k ∧ k ≤ l ∧ Aside0 (Uno w wr c ps ks)) (fun i _ => l - (intOf i).toNat)
  case atStart => exact ⟨0, _, _, rfl, Nat.zero_le _, HU4⟩
  case round =>
    clear HU4
    obtain ⟨k, ps, ks, rfl, hk, HU⟩ := hrel
    obtain ⟨wo, rfl⟩ : ∃ wo : World, wo = wr := ⟨_, rfl⟩
    by_cases hlt : k < l
    · obtain ⟨ad, A1, c1, A2, c2, rfl, hx0, hx1, hx2, h3, h4, h5⟩ := k35_at HR.out k hlt
      obtain ⟨s1, s2⟩ := HFW.out.2 k (by rw [HN.out]; exact hlt)
      obtain ⟨⟨pass, spots, cols⟩, hx⟩ : ∃ v, xs.getD k z35 = v := ⟨_, rfl⟩
      rw [hx] at hx0 hx1 hx2 h3 h4 h5 s1 s2
      simp only at hx0 hx1 hx2 h3 h4 h5 s1 s2
      obtain ⟨n1, hn1⟩ : ∃ n1, spots.length = n1 := ⟨_, rfl⟩
      obtain ⟨m1, hm1⟩ : ∃ m1, cols.length = m1 := ⟨_, rfl⟩
      rw [hn1] at hx1 h3 h4 s1
      rw [hm1] at hx2 h5 s2
      have HCA := Aside0.mk (show Came w A1 A2 c1 n1 m1 spots cols from ⟨hn1, hm1, s1, h3, h4, h5⟩)
      replace hx0 := pw_cell_below HU.out.bl hx0
      replace hx1 := pw_cell_below HU.out.bl hx1
      replace hx2 := pw_cell_below HU.out.bl hx2
      clear hx hn1 hm1 h4 h5
      have hcn : 0 < c.n := by have := HU.out.cv.sz; exact Nat.mul_pos (by omega) (by omega)
      obtain ⟨n, hn⟩ : ∃ n, c.n = n := ⟨_, rfl⟩
      have HNN := Aside0.mk hn
      have HNP := Aside0.mk (show ps.length = n by rw [← hn]; exact HU.out.cv.lp.symm)
      have HNK := Aside0.mk (show ks.length = n by rw [← hn]; exact HU.out.cv.lk.symm)
      have hn6 : n ≤ 65536 := by rw [← hn]; exact HU.out.cv.sz.2.2.2.2
      clear hn
      go_upto_region 13 with (first
        | (go_at_call 20; refine ((image_walk (HU.out.cv.alloc _) hcn).mono (fun _ _ h => img_n HNP.out h)).mono ?_; rintro e w5 ⟨gi, ci, rfl, hgi, hRi, hb5⟩; have HRI := Aside0.mk hRi; have HB5 := Aside0.mk hb5; have HBX := Aside0.mk (blk_below (heap_alloc_new wo _) hb5); have HG5 := Aside0.mk hgi; clear hgi hRi hb5)
        | (go_at_call 22; refine ((mask_walk ((HU.out.cv.alloc _).ext HB5.out) hcn).mono (fun _ _ h => clone_n HNK.out h)).mono ?_; rintro e w6 ⟨gm, cm, rfl, hgm, hRm, hb6⟩; have HRM := Aside0.mk hRm; have HB6 := Aside0.mk hb6; have HG6 := Aside0.mk hgm; clear hgm hRm hb6))
      clear hx0 hx1 hx2
      obtain ⟨wa, hwa⟩ : ∃ wa, w6.alloc (.cells #[.int .i64 c.x, .int .i64 c.y, .slice (some ⟨gi, 0, none⟩) n ci] 39) = wa := ⟨_, rfl⟩
      have HBA := Aside0.mk (show Below wo.heap.size wo wa from by
        rw [← hwa]
        have h1 := below_then (below_alloc (Below.refl _ _) _) (by simp) HB5.out
        exact below_alloc (below_then h1 h1.size HB6.out) _)
      have HUA := Aside0.mk (HU.out.ext HBA.out)
      have HSP := Aside0.mk (Kd.C_below HCA.out.sp HUA.out.bl)
      have HCO := Aside0.mk (Kd.C_below HCA.out.co HUA.out.bl)
      have HX := Aside0.mk (show wa.heap[wo.heap.size]? = some (.cells #[.int .i64 pass, .slice A1 n1 c1, .slice A2 m1 c2] 35 (0, 0)) from by rw [← hwa]; exact blk_alloc (blk_below HBX.out HB6.out) _)
      have HI := Aside0.mk (show wa.heap[w6.heap.size]? = some (.cells #[.int .i64 c.x, .int .i64 c.y, .slice (some ⟨gi, 0, none⟩) n ci] 39 (0, 0)) from by rw [← hwa]; exact heap_alloc_new _ _)
      have HRI2 := Aside0.mk (show Kd.R k45 45 wa wo.heap.size (fun k => k = gi) (.slice (some ⟨gi, 0, none⟩) n ci) ps from by rw [← hwa]; exact Kd.R_alloc (Kd.R_lower (Kd.R_below HRI.out HB6.out) (by simp)) _)
      have HRM2 := Aside0.mk (show Kd.R Kd.bool 4 wa w5.heap.size (fun k => k = gm) (.slice (some ⟨gm, 0, none⟩) n cm) ks from by rw [← hwa]; exact Kd.R_alloc HRM.out _)
      rw [hwa]
      have HGI := Aside0.mk (show w6.heap.size < wa.heap.size from by rw [← hwa]; simp)
      have h16 : n1 * 16 ≤ 140737488355328 := by omega
      have h8 : m1 * 8 ≤ 140737488355328 := by omega
      clear hwa
      go_cut [15, 47] from 47 to 167 (fun v15 v47 wx => ∃ (gx : Nat) (A5 A6 : Option Addr) (c5 c6 : Nat), v15 = .pointer (some ⟨gx, 0, none⟩) ∧ v47 = .int .i64 k ∧ Aside0 (Copy wa wx gx A5 A6 c5 c6 n1 m1 spots cols))
      case first =>
        refine wp_region_inv rfl (by kernel_rfl) (fun a0 l a' w' => ∃ v55 v56 v57 v58 v59 v60 v61 v62 v63 v15, a' = putAll a0 [(55, v55), (56, v56), (57, v57), (58, v58), (59, v59), (60, v60), (61, v61), (62, v62), (63, v63), (15, v15)] ∧ Aside0 (RI wa wo.heap.size n1 m1 A1 A2 c1 c2 spots cols l v55 v56 v57 v58 v59 v60 v61 v62 v63 v15 w')) ?_ ?_ ?_
        · exact ⟨_, _, _, _, _, _, _, _, _, _, (by simp only [putAll, Act.put, List.setIfInBounds_toArray, List.set_cons_zero, List.set_cons_succ]; rfl), ⟨RI.start _ _ _ _ _ _ _ _ _ _ _ _ _ _ _ _ _ _ _ _⟩⟩
        · intro i o ho l a' w' hli hdep hcl hI
          obtain ⟨v55, v56, v57, v58, v59, v60, v61, v62, v63, v15, hA, hI⟩ := hI
          simp only [putAll, Act.put, List.setIfInBounds_toArray, List.set_cons_zero, List.set_cons_succ] at hA
          subst hA
          have hi : i < 11 := (Array.getElem?_eq_some_iff.1 ho).1
          refine wpOp_step ho (fun K hK => ?_)
          obtain rfl | rfl | rfl | rfl | rfl | rfl | rfl | rfl | rfl | rfl | rfl : i = 0 ∨ i = 1 ∨ i = 2 ∨ i = 3 ∨ i = 4 ∨ i = 5 ∨ i = 6 ∨ i = 7 ∨ i = 8 ∨ i = 9 ∨ i = 10 := by omega
          · obtain rfl := Option.some.inj ho
            refine value_ (N := some 55) (v := .slice (some ⟨w'.heap.size, 0, none⟩) 0 0) (w1 := w'.alloc (.cells #[] 51)) (by rfl) rfl ?cr0 (hK _ _ ⟨_, v56, v57, v58, v59, v60, v61, v62, v63, v15, ?ca0, ⟨hI.out.op0⟩⟩)
            case cr0 => go_simp
            case ca0 => simp only [putAll, Act.put, List.setIfInBounds_toArray, List.set_cons_zero, List.set_cons_succ]
          · obtain rfl := Option.some.inj ho
            refine value_ (N := some 56) (v := .pointer (some ⟨wo.heap.size, 1, none⟩)) (w1 := w') (by rfl) rfl ?cr1 (hK _ _ ⟨v55, _, v57, v58, v59, v60, v61, v62, v63, v15, ?ca1, ⟨hI.out.op1⟩⟩)
            case cr1 => go_simp
            case ca1 => simp only [putAll, Act.put, List.setIfInBounds_toArray, List.set_cons_zero, List.set_cons_succ]
          · obtain rfl := Option.some.inj ho
            have hl := hdep ⟨1, .data⟩ (by simp) (by rfl)
            obtain rfl := hI.out.s1 hl
            have hx := blk_cell (blk_below HX.out hI.out.bl) 1
            refine value_ (N := some 57) (v := .slice A1 n1 c1) (w1 := w') (by rfl) rfl ?cr2 (hK _ _ ⟨v55, _, _, v58, v59, v60, v61, v62, v63, v15, ?ca2, ⟨hI.out.op2⟩⟩)
            case cr2 => go_simp
            case ca2 => simp only [putAll, Act.put, List.setIfInBounds_toArray, List.set_cons_zero, List.set_cons_succ]
          · obtain rfl := Option.some.inj ho
            have hl0 := hdep ⟨0, .data⟩ (by simp) (by rfl)
            have hl2 := hdep ⟨2, .data⟩ (by simp) (by rfl)
            obtain ⟨b, rfl, hb1, hb2⟩ := hI.out.s0 hl0
            obtain rfl := hI.out.s2 hl2
            have hb2 := hb2 hli
            have hl8f : l 8 = false := by
              cases e8 : l 8 with
              | false => rfl
              | true => exact ((hcl 8 _ rfl e8 ⟨3, .data⟩ (by simp) (by rfl)).symm.trans hli)
            have h10 : l 10 = false := by
              cases e10 : l 10 with
              | false => rfl
              | true => exact ((hcl 10 _ rfl e10 ⟨8, .data⟩ (by simp) (by rfl)).symm.trans hl8f)
            refine app_lit k51 (wa := wa) (by rfl) (.tmp 55) (.tmp 57) 32 51 (.agg #[.int .i64 0, .int .i64 0]) 16 rfl Try.underlying32 info51_ rfl (by decide) (by decide) b spots A1 n1 c1 (by rfl) (by rfl) hb2 hb1 hI.out.bl HSP.out k51_KM h16 ?_
            intro A5 c5 w5 hR hB hG hO
            exact hK _ _ ⟨_, v56, _, _, v59, v60, v61, v62, v63, v15, (by simp only [putAll, Act.put, List.setIfInBounds_toArray, List.set_cons_zero, List.set_cons_succ]; rfl), ⟨hI.out.op3 hb2 hl8f h10 hB hR hG hO⟩⟩
          · obtain rfl := Option.some.inj ho
            refine value_ (N := some 59) (v := .slice (some ⟨w'.heap.size, 0, none⟩) 0 0) (w1 := w'.alloc (.cells #[] 45)) (by rfl) rfl ?cr4 (hK _ _ ⟨v55, v56, v57, v58, _, v60, v61, v62, v63, v15, ?ca4, ⟨hI.out.op4⟩⟩)
            case cr4 => go_simp
            case ca4 => simp only [putAll, Act.put, List.setIfInBounds_toArray, List.set_cons_zero, List.set_cons_succ]
          · obtain rfl := Option.some.inj ho
            refine value_ (N := some 60) (v := .pointer (some ⟨wo.heap.size, 2, none⟩)) (w1 := w') (by rfl) rfl ?cr5 (hK _ _ ⟨v55, v56, v57, v58, v59, _, v61, v62, v63, v15, ?ca5, ⟨hI.out.op5⟩⟩)
            case cr5 => go_simp
            case ca5 => simp only [putAll, Act.put, List.setIfInBounds_toArray, List.set_cons_zero, List.set_cons_succ]
          · obtain rfl := Option.some.inj ho
            have hl := hdep ⟨5, .data⟩ (by simp) (by rfl)
            obtain rfl := hI.out.s5 hl
            have hx := blk_cell (blk_below HX.out hI.out.bl) 2
            refine value_ (N := some 61) (v := .slice A2 m1 c2) (w1 := w') (by rfl) rfl ?cr6 (hK _ _ ⟨v55, v56, v57, v58, v59, _, _, v62, v63, v15, ?ca6, ⟨hI.out.op6⟩⟩)
            case cr6 => go_simp
            case ca6 => simp only [putAll, Act.put, List.setIfInBounds_toArray, List.set_cons_zero, List.set_cons_succ]
          · obtain rfl := Option.some.inj ho
            have hl0 := hdep ⟨4, .data⟩ (by simp) (by rfl)
            have hl2 := hdep ⟨6, .data⟩ (by simp) (by rfl)
            obtain ⟨b, rfl, hb1, hb2⟩ := hI.out.s4 hl0
            obtain rfl := hI.out.s6 hl2
            have hb2 := hb2 hli
            have hl8f : l 8 = false := by
              cases e8 : l 8 with
              | false => rfl
              | true => exact ((hcl 8 _ rfl e8 ⟨7, .data⟩ (by simp) (by rfl)).symm.trans hli)
            have h10 : l 10 = false := by
              cases e10 : l 10 with
              | false => rfl
              | true => exact ((hcl 10 _ rfl e10 ⟨8, .data⟩ (by simp) (by rfl)).symm.trans hl8f)
            refine app_lit k45 (wa := wa) (by rfl) (.tmp 59) (.tmp 61) 33 45 (.agg #[.int .u16 0, .int .u16 0, .int .u16 0, .int .u16 0]) 8 rfl Try.underlying33 info45_ rfl (by decide) (by decide) b cols A2 m1 c2 (by rfl) (by rfl) hb2 hb1 hI.out.bl HCO.out k45_KM h8 ?_
            intro A5 c5 w5 hR hB hG hO
            exact hK _ _ ⟨v55, v56, v57, v58, _, v60, _, _, v63, v15, (by simp only [putAll, Act.put, List.setIfInBounds_toArray, List.set_cons_zero, List.set_cons_succ]; rfl), ⟨hI.out.op7 hb2 hl8f h10 hB hR hG hO⟩⟩
          · obtain rfl := Option.some.inj ho
            have hl3 := hdep ⟨3, .data⟩ (by simp) (by rfl)
            have hl7 := hdep ⟨7, .data⟩ (by simp) (by rfl)
            obtain ⟨A5, c5, rfl, _⟩ := hI.out.s3 hl3
            obtain ⟨A6, c6, rfl, _⟩ := hI.out.s7 hl7
            refine value_ (N := some 63) (v := .agg #[.int .i64 0, .slice A5 n1 c5, .slice A6 m1 c6]) (w1 := w') (by rfl) rfl ?cr8 (hK _ _ ⟨v55, v56, v57, _, v59, v60, v61, _, _, v15, ?ca8, ⟨hI.out.op8⟩⟩)
            case cr8 => go_simp
            case ca8 => simp only [putAll, Act.put, List.setIfInBounds_toArray, List.set_cons_zero, List.set_cons_succ]
          · obtain rfl := Option.some.inj ho
            have h10 : l 10 = false := by
              cases e10 : l 10 with
              | false => rfl
              | true => exact ((hcl 10 _ rfl e10 ⟨9, .data⟩ (by simp) (by rfl)).symm.trans hli)
            refine value_ (N := some 15) (v := .pointer (some ⟨w'.heap.size, 0, none⟩)) (w1 := w'.alloc (.cells #[.int .i64 0, .slice none 0 0, .slice none 0 0] 35)) (by rfl) rfl ?cr9 (hK _ _ ⟨v55, v56, v57, v58, v59, v60, v61, v62, v63, _, ?ca9, ⟨hI.out.op9 h10⟩⟩)
            case cr9 => go_simp
            case ca9 => simp only [putAll, Act.put, List.setIfInBounds_toArray, List.set_cons_zero, List.set_cons_succ]
          · obtain rfl := Option.some.inj ho
            have hl8 := hdep ⟨8, .data⟩ (by simp) (by rfl)
            have hl9 := hdep ⟨9, .data⟩ (by simp) (by rfl)
            have hl3 := hcl 8 _ rfl hl8 ⟨3, .data⟩ (by simp) (by rfl)
            have hl7 := hcl 8 _ rfl hl8 ⟨7, .data⟩ (by simp) (by rfl)
            obtain ⟨A5, c5, rfl, _⟩ := hI.out.s3 hl3
            obtain ⟨A6, c6, rfl, _⟩ := hI.out.s7 hl7
            obtain rfl := hI.out.s8 hl8
            obtain ⟨g, rfl, hg, hx, _⟩ := hI.out.s9 hl9
            have hx := hx hli
            have hI2 := hI.out.op10 hl9 hli
            have k0 := blk_cell hx 0
            have k1 := blk_cell hx 1
            have k2 := blk_cell hx 2
            have f0 := blk_frozen hx 0
            have f1 := blk_frozen hx 1
            have f2 := blk_frozen hx 2
            refine skip_ (w1 := ((w'.setCell ⟨g, 0, none⟩ (.int .i64 0)).setCell ⟨g, 1, none⟩ (.slice A5 n1 c5)).setCell ⟨g, 2, none⟩ (.slice A6 m1 c6)) (by rfl) rfl ?cr10 (hK _ _ ⟨v55, v56, v57, _, v59, v60, v61, _, _, _, ?ca10, ⟨hI2⟩⟩)
            case cr10 => go_simp
            case ca10 => simp only [putAll, Act.put, List.setIfInBounds_toArray, List.set_cons_zero, List.set_cons_succ]
        · intro l' a' w' hl hI
          obtain ⟨v55, v56, v57, v58, v59, v60, v61, v62, v63, v15, hA, hI⟩ := hI
          simp only [putAll, Act.put, List.setIfInBounds_toArray, List.set_cons_zero, List.set_cons_succ] at hA
          subst hA
          obtain ⟨A5, c5, rfl, hR5⟩ := hI.out.s3 (hl 3 (by decide))
          obtain ⟨A6, c6, rfl, hR6⟩ := hI.out.s7 (hl 7 (by decide))
          obtain ⟨g, rfl, hg, _, hx⟩ := hI.out.s9 (hl 9 (by decide))
          have hC := Aside0.mk (show Copy wa w' g A5 A6 c5 c6 n1 m1 spots cols from ⟨hI.out.bl, hg, hx (hl 10 (by decide)), hR5, hR6⟩)
          clear hI hR5 hR6 hg hx hl
          go_wp2
          go_meet
          case rel => exact ⟨g, A5, A6, c5, c6, rfl, rfl, hC⟩
      case rest =>
        obtain ⟨gx, A5, A6, c5, c6, rfl, rfl, HCP⟩ := hcut
        obtain ⟨⟨f, cn, ps2, ks2⟩, hP⟩ : ∃ P, layL c.x c.y (cntL ks) ps ks spots cols = P := ⟨_, rfl⟩
        have HLAY := Aside0.mk (lay_own HUA.out HCP.out HCA.out.ln HCA.out.lm HCA.out.sm hP)
        have HCNT := Aside0.mk (show cn = cntL ks2 by
          have h1 := lay_cnt (x := c.x) (y := c.y) (n := c.n) rfl ps ks HU.out.cv.lk.symm rfl spots cols
          rw [hP] at h1
          exact h1)
        have HKEEP := Aside0.mk (show ∀ i, ks.getD i false = true → ps2.getD i z45 = ps.getD i z45 from fun i hi => by
          have h1 := lay_keep (x := c.x) (y := c.y) (n := c.n) (cnt := cntL ks) rfl ps ks spots cols i hi
          rw [hP] at h1
          exact h1)
        have HREF := Aside0.mk (show f ≠ 0 → cn = cntL ks ∧ ps2 = ps from fun hf => by
          have h1 := lay_refused (x := c.x) (y := c.y) (cnt := cntL ks) ps ks spots cols (by rw [hP]; exact hf)
          rw [hP] at h1
          injection h1 with h1 h2
          injection h2 with h2 h3
          exact ⟨h1, h2⟩)
        have HTAK := Aside0.mk (show f = 0 → cn = cntL ks + n1 from fun hf => by
          have h1 := lay_taken (x := c.x) (y := c.y) (cnt := cntL ks) ps ks spots cols (by rw [hP]; exact hf)
          rw [hP, HCA.out.ln] at h1
          exact h1)
        clear hP
        have hS : ∀ k, c.S k → k < wa.heap.size := by
          have hlt := HUA.out.cv.lt
          rintro k (rfl | rfl | rfl) <;> omega
        have HS := Aside0.mk hS
        have HNX := Aside0.mk (show ¬ c.S gx from fun h => by have := hS _ h; have := HCP.out.ge; omega)
        have hx0 := blk_cell HCP.out.bx 0
        have hx1 := blk_cell HCP.out.bx 1
        have hx2 := blk_cell HCP.out.bx 2
        clear hS
        go_wp2_with (first
          | (go_at_call 12; refine HLAY.out.mono ?_; rintro e wL ⟨rfl, hL1, hL2, hL3⟩; have HL1 := Aside0.mk hL1; have HL2 := Aside0.mk hL2; have HL3 := Aside0.mk hL3; have hy2 := blk_cell (blk_kept HCP.out.bx hL2 HNX.out) 2; clear hL1 hL2 hL3 hx0 hx1 hx2))
        have HRI3 := Aside0.mk (Kd.R_kept (Kd.R_below HRI2.out HCP.out.bl) HL2.out (fun k hk h => by have := HU.out.cv.lt; have h7 := HG5.out; simp at h7; rcases h with h | h | h <;> omega))
        have HRM3 := Aside0.mk (Kd.R_kept (Kd.R_below HRM2.out HCP.out.bl) HL2.out (fun k hk h => by have := HU.out.cv.lt; have h7 := HG6.out; have h8 := HB5.out.size; simp at h8; rcases h with h | h | h <;> omega))
        have HX3 := Aside0.mk (blk_kept (blk_below HX.out HCP.out.bl) HL2.out (fun h => by have := HU.out.cv.lt; rcases h with h | h | h <;> omega))
        have HI3 := Aside0.mk (blk_kept (blk_below HI.out HCP.out.bl) HL2.out (fun h => by have := HU.out.cv.lt; have := HB6.out.size; have := HB5.out.size; simp at this; rcases h with h | h | h <;> omega))
        have HO0 := Aside0.mk (show Over wa.heap.size wL wL gx 35 #[.int .i64 0, .slice A5 n1 c5, .slice A6 m1 c6] A6 m1 c6 0 cols from ⟨Below.refl _ _, blk_kept HCP.out.bx HL2.out HNX.out, cols, fun _ _ => rfl, Kd.R_kept HCP.out.co HL2.out (fun k hk h => by have := HS.out k h; omega)⟩)
        have HNP2 := Aside0.mk (show ps2.length = n by rw [← HNN.out]; exact HL1.out.lp.symm)
        go_loopw [70] (fun i wr => ∃ t : Nat, i = .int .i64 t ∧ t ≤ m1 ∧ Aside0 (Over wa.heap.size wL wr gx 35 #[.int .i64 0, .slice A5 n1 c5, .slice A6 m1 c6] A6 m1 c6 t cols)) (fun i _ => m1 - (intOf i).toNat)
        case atStart => exact ⟨0, rfl, Nat.zero_le _, HO0⟩
        case round =>
          clear HO0 hy2
          obtain ⟨t, rfl, ht, HO⟩ := hrel
          obtain ⟨wp, rfl⟩ : ∃ wp : World, wp = wr := ⟨_, rfl⟩
          have hy2 := blk_cell HO.out.bx 2
          by_cases hlt2 : t < m1
          · obtain ⟨g6, rfl, hg6, ⟨q0, q1, q2, q3⟩, ⟨y0, y1⟩, hs0, _⟩ := HO.out.at_ (by decide) hlt2
            have HS0 := Aside0.mk hs0
            clear hs0
            go_wp2
            exact ⟨⟨t + 1, by push_cast; rfl, by omega, ⟨HS0.out _⟩⟩, by simp [intOf]; omega⟩
          · obtain rfl : t = m1 := by omega
            have HCV := Aside0.mk (HL1.out.b HO.out.bl HS.out)
            go_wp2_with (first
              | (go_at_call 20; refine ((image_walk HCV.out hcn).mono (fun _ _ h => img_n HNP2.out h)).mono ?_; rintro e w8 ⟨gj, cj, rfl, hgj, hRj, hb8⟩; have HRJ := Aside0.mk hRj; have HB8 := Aside0.mk hb8; clear hRj hb8)
              | (go_at_call 23; refine (count_walk (HCV.out.ext HB8.out)).mono ?_; rintro e w9 ⟨rfl, rfl⟩))
            clear hy2
            have HLT := Aside0.mk (show gi < wa.heap.size ∧ gm < wa.heap.size from ⟨Kd.R_lt HRI2.out gi rfl, Kd.R_lt HRM2.out gm rfl⟩)
            have HLX := Aside0.mk (show wo.heap.size < wa.heap.size from blk_lt HX.out)
            obtain ⟨wb, hwb⟩ : ∃ wb, w8.alloc (.cells #[.int .i64 c.x, .int .i64 c.y, .slice (some ⟨gj, 0, none⟩) n cj] 39) = wb := ⟨_, rfl⟩
            have HJ0 := Aside0.mk (show Over wa.heap.size wL wb w8.heap.size 39 #[.int .i64 c.x, .int .i64 c.y, .slice (some ⟨gj, 0, none⟩) n cj] (some ⟨gj, 0, none⟩) n cj 0 ps2 from by
              have h1 := HO.out.bl
              have h3 := HL2.out.1
              have h4 := HCP.out.bl.size
              have h2 : wa.heap.size ≤ wp.heap.size := by have := h1.size; omega
              rw [← hwb]
              refine ⟨(h1.trans (HB8.out.mono h2)).alloc (by have := HB8.out.size; omega) _, heap_alloc_new _ _, ps2, fun _ _ => rfl, Kd.R_alloc (Kd.R_lower (Kd.R_mono HRJ.out (fun k hk => by subst hk; omega)) h2) _⟩)
            rw [hwb]
            clear hwb HRJ
            go_loopw [90] (fun i wr => ∃ t : Nat, i = .int .i64 t ∧ t ≤ n ∧ Aside0 (Over wa.heap.size wL wr w8.heap.size 39 #[.int .i64 c.x, .int .i64 c.y, .slice (some ⟨gj, 0, none⟩) n cj] (some ⟨gj, 0, none⟩) n cj t ps2)) (fun i _ => n - (intOf i).toNat)
            case atStart => exact ⟨0, rfl, Nat.zero_le _, HJ0⟩
            case round =>
              clear HJ0
              obtain ⟨i, rfl, hi, HJ⟩ := hrel
              obtain ⟨wq, rfl⟩ : ∃ wq : World, wq = wr := ⟨_, rfl⟩
              have HWN := Aside0.mk (show wa.heap.size ≤ wq.heap.size from by have h1 := HJ.out.bl.size; have h3 := HL2.out.1; have h4 := HCP.out.bl.size; omega)
              have hj2 := blk_cell HJ.out.bx 2
              have hi2 := blk_cell (blk_b HI3.out HJ.out.bl HGI.out) 2
              have hx1 := blk_cell (blk_b HX3.out HJ.out.bl HLX.out) 1
              by_cases hlt3 : i < n
              · obtain ⟨g6, e6, hg6, ⟨q0, q1, q2, q3⟩, ⟨y0, y1⟩, _, hs1⟩ := HJ.out.at_ (by decide) hlt3
                obtain rfl : gj = g6 := by injection e6 with e6; injection e6
                clear e6
                have HS1 := Aside0.mk hs1
                clear hs1
                obtain ⟨r0, r1, r2, r3⟩ := pix_at (R_b HRI3.out HJ.out.bl (fun k hk => by rw [hk]; exact HLT.out.1)) i hlt3
                have hmk := mark_at (R_b HRM3.out HJ.out.bl (fun k hk => by rw [hk]; exact HLT.out.2)) i hlt3
                have HE := Aside0.mk (show ks.getD i false = true ∨ f ≠ 0 → ps2.getD i z45 = ps.getD i z45 from fun h => by
                  rcases h with h | h
                  · exact HKEEP.out i h
                  · rw [(HREF.out h).2])
                have hi0 : (0 : Int) ≤ (i : Int) := by omega
                have hi1 : (i : Int) < (n : Int) := by omega
                by_cases hf : f = 0
                · subst hf
                  cases hb : ks.getD i false with
                  | true =>
                    rw [hb] at hmk
                    rw [HE.out (.inl hb)] at q0 q1 q2 q3
                    clear hb
                    go_wp2
                    go_quiet (fail)
                    go_wp2
                    exact ⟨⟨i + 1, by push_cast; rfl, by omega, ⟨HJ.out.set1 (by decide) hlt3 HWN.out nq _⟩⟩, by simp [intOf]; omega⟩
                  | false =>
                    rw [hb] at hmk
                    clear hb
                    go_wp2
                    go_quiet (fail)
                    go_wp2
                    exact ⟨⟨i + 1, by push_cast; rfl, by omega, ⟨HJ.out.set1 (by decide) hlt3 HWN.out nq _⟩⟩, by simp [intOf]; omega⟩
                · have hf1 : (f != 0) = true := by simpa using hf
                  have hf2 : (f == 0) = false := by simpa using hf
                  rw [HE.out (.inr hf)] at q0 q1 q2 q3
                  cases hb : ks.getD i false with
                  | true =>
                    rw [hb] at hmk
                    clear hb
                    go_wp2
                    go_quiet (fail)
                    go_wp2
                    exact ⟨⟨i + 1, by push_cast; rfl, by omega, ⟨HJ.out.set1 (by decide) hlt3 HWN.out nq _⟩⟩, by simp [intOf]; omega⟩
                  | false =>
                    rw [hb] at hmk
                    clear hb
                    go_wp2
                    go_quiet (fail)
                    go_wp2
                    exact ⟨⟨i + 1, by push_cast; rfl, by omega, ⟨HJ.out.set1 (by decide) hlt3 HWN.out nq _⟩⟩, by simp [intOf]; omega⟩
              · obtain rfl : n = i := by omega
                go_wp2
                have HUN := Aside0.mk (show Uno w wq c ps2 ks2 from ⟨HCNT.out ▸ (HL1.out.b HJ.out.bl HS.out), ((below_then HUA.out.bl HUA.out.bl.size HCP.out.bl).trans HL3.out).trans (HJ.out.bl.mono HUA.out.bl.size)⟩)
                go_loop [21, 139] (fun q j => ∃ t : Nat, t ≤ n ∧ j = .int .i64 t ∧ q = .int .i64 (cntL (ks.take t) : Nat)) (fun _ j => n - (intOf j).toNat)
                case atStart => exact ⟨0, Nat.zero_le _, rfl, rfl⟩
                case round =>
                  obtain ⟨t, ht4, rfl, rfl⟩ := hrel
                  have hle : cntL (ks.take t) ≤ t := Nat.le_trans (cntL_le _) (by simp; omega)
                  have HSN := Aside0.mk (cntL_snoc ks t)
                  obtain ⟨q, hq⟩ : ∃ q, cntL (ks.take t) = q := ⟨_, rfl⟩
                  have HQ := Aside0.mk hq
                  rw [hq] at hle
                  rw [hq]
                  clear hq
                  by_cases hlt4 : t < n
                  · have hmk := mark_at (R_b HRM3.out HJ.out.bl (fun k hk => by rw [hk]; exact HLT.out.2)) t hlt4
                    have hi0 : (0 : Int) ≤ (t : Int) := by omega
                    have hi1 : (t : Int) < (n : Int) := by omega
                    cases hb : ks.getD t false with
                    | true =>
                      rw [hb] at hmk
                      have HMK := Aside0.mk hb
                      clear hb
                      go_wp2
                      exact ⟨⟨t + 1, by omega, by push_cast; rfl, by rw [HSN.out (by rw [HNK.out]; exact hlt4), HMK.out, HQ.out]; push_cast; rfl⟩, by simp [intOf]; omega⟩
                    | false =>
                      rw [hb] at hmk
                      have HMK := Aside0.mk hb
                      clear hb
                      go_wp2
                      exact ⟨⟨t + 1, by omega, by push_cast; rfl, by rw [HSN.out (by rw [HNK.out]; exact hlt4), HMK.out, HQ.out]; rfl⟩, by simp [intOf]; omega⟩
                  · obtain rfl : n = t := by omega
                    have e : ks.take n = ks := List.take_of_length_le (by rw [HNK.out]; exact Nat.le_refl _)
                    have HQ2 := Aside0.mk (show cntL ks = q by have h1 := HQ.out; rw [e] at h1; exact h1)
                    clear e HSN
                    by_cases hf : f = 0
                    · subst hf
                      have hne : ((cn : Int) != (q : Int) + (n1 : Int)) = false := by have h1 := HTAK.out rfl; rw [HQ2.out] at h1; subst h1; simp
                      go_wp2
                      exact ⟨⟨k + 1, ps2, ks2, by push_cast; rfl, by omega, HUN⟩, by simp [intOf]; omega⟩
                    · have hf1 : (f != 0) = true := by simpa using hf
                      have hf2 : (f == 0) = false := by simpa using hf
                      have hne : ((cn : Int) != (q : Int)) = false := by have h1 := (HREF.out hf).1; rw [HQ2.out] at h1; subst h1; simp
                      clear hf
                      go_wp2
                      exact ⟨⟨k + 1, ps2, ks2, by push_cast; rfl, by omega, HUN⟩, by simp [intOf]; omega⟩
    · obtain rfl : k = l := by omega
      go_wp2
      go_ret
      exact ⟨rfl, HU.out.bl⟩
theorem stays_said (a b : Int) (A3 : Option Addr) (c3 : Nat) (xs : List S35) (w : World) (hw0 : (Lit.int .u8 a).wf = true) (hw1 : (Lit.int .u8 b).wf = true) (hr : Kd.C k35 w A3 xs.length xs) (hc3 : xs.length ≤ c3)
    (h : xs.length ≤ 9223372036854775807 ∧ xs.length * 56 ≤ 140737488351232 ∧ ∀ x ∈ xs, (Lit.int .i64 x.f0).wf = true ∧ (x.f1.length ≤ 9223372036854775807 ∧ x.f1.length * 16 ≤ 140737488351232 ∧ ∀ r ∈ x.f1, (Lit.int .i64 r.f0).wf = true ∧ (Lit.int .i64 r.f1).wf = true) ∧ (x.f2.length ≤ 9223372036854775807 ∧ x.f2.length * 8 ≤ 140737488351232 ∧ ∀ r ∈ x.f2, (Lit.int .u16 r.f0).wf = true ∧ (Lit.int .u16 r.f1).wf = true ∧ (Lit.int .u16 r.f2).wf = true ∧ (Lit.int .u16 r.f3).wf = true)) :
    Calls Try.prog 6 #[.int .u8 a, .int .u8 b, .slice A3 xs.length c3] w fun e w' => e = .returned (.bool true) ∧ Below w.heap.size w w' :=
  stays_row a b A3 c3 xs w (Go.bounds_u8 hw0) (Go.bounds_u8 hw1) hr hc3 (fun x hx => line_ok (h.2.2 x hx))
end Go.Proofs.Ytmeafgoifekffaa.Lib
