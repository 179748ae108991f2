/- ReceiverPlays: the row. -/
import Derived.Test.YthkiedkifhloeaaR6
namespace Go.Proofs.Ythkiedkifhloeaa.Lib
open Go.RowKit Go.Proofs.YthkiedkifhloeaaW.PrintWords Go.Proofs.YthkiedkifhloeaaW.PrintLast Go.Proofs.YthkiedkifhloeaaW.PrintMore
attribute [local go_sem] max2_int min2_int max_two min_two max_three min_three max_four min_four
set_option linter.unusedVariables false
set_option linter.unusedSimpArgs false
theorem drawn_below {W W' : World} (h : Drawn0 W W') : Below W.heap.size W W' := by
  obtain ⟨q, rfl⟩ := h
  exact pw_below_drewN (Below.refl _ _) q
set_option maxHeartbeats 8000000 in
set_option maxRecDepth 100000 in
theorem plays_row (nq win : Int) (A2 : Option Addr) (c2 : Nat) (items : List It) (w : World) (hw0 : (Lit.int .i64 nq).wf = true) (hw1 : (Lit.int .i64 win).wf = true) (hr2 : Kd.C k38 w A2 items.length items) (hc2 : items.length ≤ c2)
    (hw2 : items.length ≤ 9223372036854775807 ∧ items.length * 32 ≤ 140737488351232 ∧ ∀ x ∈ items, ((Lit.int .i64 x.1).wf = true ∧ (x.2.length ≤ 9223372036854775807 ∧ x.2.length * 1 ≤ 140737488351232 ∧ ∀ b ∈ x.2, (Lit.int .u8 b).wf = true))) :
    Calls Try.prog 4 #[.int .i64 nq, .int .i64 win, .slice A2 items.length c2] w fun e w' => e = .returned (.bool true) ∧ Below w.heap.size w w' := by
  have HOK := Aside0.mk hw2.2.2
  have hm9 : items.length ≤ 5000000000000 := by have := hw2.2.1; omega
  obtain ⟨m, hm⟩ : ∃ m, items.length = m := ⟨_, rfl⟩
  rw [hm] at hr2 hc2 hm9 ⊢
  have HM := Aside0.mk hm
  have HR := Aside0.mk hr2
  clear hr2 hc2 hw0 hw1 hw2 hm
  by_cases hbig : 300 < nq
  · have hd : decide (300 < nq) = true := decide_eq_true hbig
    go_enter Try.func4, Try.ntmps4
    go_wp2_with fail
    refine (fixed_walk w).mono ?_
    rintro e w1 ⟨rfl, hb1⟩
    go_wp2
    go_ret
    exact ⟨rfl, hb1⟩
  · have hd : decide (300 < nq) = false := decide_eq_false hbig
    by_cases hbad : nq < 0 ∨ 1048577 < nq ∨ win < 1 ∨ 64 < win
    · go_enter Try.func4, Try.ntmps4
      go_wp2_with fail
      refine (fixed_walk w).mono ?_
      rintro e w1 ⟨rfl, hb1⟩
      go_wp2_with fail
      refine (new_bad nq win w1 hbad).mono ?_
      rintro e w2 ⟨rfl, rfl⟩
      go_wp2_with fail
      refine (rf_new_bad nq win _ hbad).mono ?_
      rintro e w3 ⟨rfl, rfl⟩
      go_wp2
      go_ret
      exact ⟨rfl, hb1⟩
    · obtain ⟨n, rfl⟩ : ∃ n : Nat, nq = (n : Int) := ⟨nq.toNat, by omega⟩
      have hww : 1 ≤ win ∧ win ≤ 64 := by omega
      have hn300 : n ≤ 300 := by omega
      have HWW := Aside0.mk hww
      clear hww hbad hbig
      go_enter Try.func4, Try.ntmps4
      go_wp2_with fail
      refine (fixed_walk w).mono ?_
      rintro e w1 ⟨rfl, hb1⟩
      have HB1 := Aside0.mk hb1
      clear hb1
      go_wp2_with fail
      refine (rv_new (n : Int) win w1 tru ⟨by omega, by omega⟩ HWW.out).mono ?_
      rintro e w2 ⟨g, mb, rfl, hV2, hb2⟩
      have HV2 := Aside0.mk hV2
      have HB2 := Aside0.mk hb2
      clear hV2 hb2
      go_wp2_with fail
      refine (rf_new n win w2 (by omega) HWW.out).mono ?_
      rintro e w3 ⟨h, vD, vC, rfl, hF3, hb3⟩
      have HP0 := Aside0.mk (PI.new (by omega) HWW.out HB1.out HV2.out HB2.out hF3 hb3)
      clear hF3 hb3 HB1 HV2 HB2
      go_wp2_with fail
      refine (few_walk A2 m c2 items w w3 HM.out HR.out HP0.out.bl (fun x hx => by have := (HOK.out x hx).2.2.1; omega) hm9).mono ?_
      rintro e w4 ⟨b, rfl, hF, hb4⟩
      cases b with
      | false =>
        have HB4 := Aside0.mk (HP0.out.below hb4).bl
        clear hb4 hF
        go_wp2
        go_ret
        exact ⟨rfl, HB4.out⟩
      | true =>
        have HF := Aside0.mk (hF rfl)
        have HP1 := Aside0.mk (HP0.out.below hb4)
        clear hF hb4 HP0
        go_wp2
        go_loopw [12, 13, 14, 15, 16, 17, 18, 54] (fun v12 v13 v14 v15 v16 v17 v18 v54 wr => ∃ (t p : Nat) (u12 u13 u14 u15 u16 u17 u18 : Value) (L : List (Int × List Int)) (hs : List Hd) (bs : List Bool) (cb : List (List Int)), u12 = v12 ∧ u13 = v13 ∧ u14 = v14 ∧ u15 = v15 ∧ u16 = v16 ∧ u17 = v17 ∧ u18 = v18 ∧ v54 = .int .i64 t ∧ t ≤ m ∧ Aside0 (PI w wr tru g mb h n vD vC win p L hs bs cb) ∧ Aside0 (∀ x ∈ L, Bytes x.2)) (fun _ _ _ _ _ _ _ v54 _ => m - (intOf v54).toNat)
        case atStart => exact ⟨0, 0, _, _, _, _, _, _, _, [], _, _, _, rfl, rfl, rfl, rfl, rfl, rfl, rfl, rfl, Nat.zero_le _, HP1, ⟨fun x hx => absurd hx List.not_mem_nil⟩⟩
        case round =>
          obtain ⟨t, p, u12, u13, u14, u15, u16, u17, u18, L, hs, bs, cb, rfl, rfl, rfl, rfl, rfl, rfl, rfl, rfl, ht, HP, HBY⟩ := hrel
          by_cases hlt : t < m
          · obtain ⟨ad, A1, c1, rfl, hx0, hx1, h2, h3⟩ := it_at HR.out HP.out.bl t hlt
            obtain ⟨hwfx, _, hm7, hby⟩ := HOK.out (items.getD t zi) (by rw [List.getD_eq_getElem?_getD, List.getElem?_eq_getElem (by rw [HM.out]; exact hlt)]; simp)
            have hm30 : (items.getD t zi).2.length ≤ 3000 := Nat.le_trans (sumI_mem items _ (by rw [List.getD_eq_getElem?_getD, List.getElem?_eq_getElem (by rw [HM.out]; exact hlt)]; simp)) HF.out.s
            obtain ⟨⟨x, d⟩, hx⟩ : ∃ v, items.getD t zi = v := ⟨_, rfl⟩
            rw [hx] at hx0 hx1 h2 h3 hwfx hm30 hby
            simp only at hx0 hx1 h2 h3 hwfx hm30 hby
            obtain ⟨md, hmd⟩ : ∃ md, d.length = md := ⟨_, rfl⟩
            rw [hmd] at hx1 h2 h3 hm30
            have HWFX := Aside0.mk hwfx
            have HMD := Aside0.mk hmd
            have H3 := Aside0.mk h3
            have HDB := Aside0.mk (Bytes.of hby)
            have ht0 : (0 : Int) ≤ (t : Int) := by omega
            have htm : (t : Int) < (m : Int) := by omega
            clear hx hmd h3 h2 hwfx hm7 hby
            obtain ⟨bx, hbx⟩ : ∃ bx, wr.heap.size = bx := ⟨_, rfl⟩
            obtain ⟨wb, hwb⟩ : ∃ wb, wr.alloc (.cells #[.int .i64 x, .slice A1 md c1] 38) = wb := ⟨_, rfl⟩
            have HLb := Aside0.mk (show Below wr.heap.size wr wb from hwb ▸ below_alloc (Below.refl _ _) _)
            have HBXc := Aside0.mk (show wb.heap[bx]? = some (.cells #[.int .i64 x, .slice A1 md c1] 38 (0, 0)) from by rw [← hwb]; subst hbx; exact heap_alloc_new wr _)
            have HCb := Aside0.mk (Kd.C_below H3.out (below_then HP.out.bl HP.out.bl.size HLb.out))
            go_wp2_with (first
              | ((with_reducible refine gate_dst (N := 58) rfl ?_); (try rw [hwb]); refine Kd.R_lit (Kd.int .u8) (w0 := wb) wb.heap.size 5 ?hg (N := 58) ?hd (xs := ([] : List Int)) (inner := []) (ok := fun _ => True) (okp := fun _ => True) ?hr ?hp (fun _ hk => hk) trivial (Below.refl _ _) (Nat.le_refl _) (by simp) ?_; (case hd => rfl); (case hg => rfl); (case hr => first | (go_simp; done) | (go_simp; rfl)); (case hp => exact (Reps.none _ _)); intro v1 w5 ho1 hb1 hg_ hnew_; clear hg_ hnew_; have HO1 := Aside0.mk ho1; have HB1 := Aside0.mk hb1; have HC1 := Aside0.mk (Kd.C_below HCb.out hb1); have hbx1 := blk_cell ((hb1.block _ (blk_lt HBXc.out)).trans HBXc.out) 1; clear ho1 hb1)
              | ((with_reducible refine gate_builtin (b := .append) (xs := #[.tmp 58, .tmp 60]) rfl ?_); at_builtin; go_loud (refine Kd.R_append_rows (Kd.int .u8) (w0 := wb) wb.heap.size rfl (.tmp 58) (.tmp 60) 22 5 (.int .u8 0) 1 rfl Try.underlying22 info5 rfl (by decide) (by decide) v1 [] d A1 md c1 (fun _ => True) (fun _ => False) rfl rfl HO1.out HC1.out (fun _ _ h => h) (fun _ h => h.elim) (fun _ _ => trivial) HB1.out HB1.out.size (by simp; omega) ?_); intro v2 w6 ho2 hb2 hg_ hat_; clear hg_ hat_; rw [List.nil_append] at ho2; obtain ⟨A5, c5, rfl⟩ := Kd.R_slice ho2; rw [HMD.out] at ho2 ⊢; have HO2 := Aside0.mk ho2; have HB2 := Aside0.mk hb2; clear hb2 ho2 HO1 HB1 HC1 hbx1; have hbx0 := blk_cell ((HB2.out.block _ (blk_lt HBXc.out)).trans HBXc.out) 0; have HX6 := Aside0.mk ((HB2.out.block _ (blk_lt HBXc.out)).trans HBXc.out)))
            have HBW6 := Aside0.mk (show Below wr.heap.size wr w6 from below_then HLb.out HLb.out.size HB2.out)
            have HP6 := Aside0.mk (HP.out.fresh (v := .slice A5 md c5) HBW6.out (fun k hk => Nat.le_trans HLb.out.size (Kd.R_base HO2.out k hk)))
            have HR6 := Aside0.mk (Kd.R_lower HO2.out (Nat.le_trans HP.out.bl.size HLb.out.size))
            clear HLb HBXc HCb hwb hbx HO2 HB2 HBW6 hx0 hx1 hbx0
            refine (pi_take1 HP6.out rfl HMD.out HR6.out x HWFX.out (by omega)).mono ?_
            rintro e w7 ⟨Ao, No, co, bb, nx', L', T, rfl, h1, h38⟩
            have H1 := Aside0.mk h1
            have HDY := Aside0.mk (h1.2.2.2.2.1.bytes HBY.out HDB.out)
            have hNo : No ≤ 300 := by
              have h2 := h1.2.2.2.2.1.len h1.2.2.2.2.2.1
              have h3 := h1.2.2.2.1
              omega
            have hNo6 : No ≤ 1000000 := by omega
            have HX7 := Aside0.mk ((h38 bx ⟨_, HX6.out⟩).trans HX6.out)
            have hbx0 := blk_cell HX7.out 0
            have hbx1 := blk_cell HX7.out 1
            clear h1 h38 HX6 HP6 HR6 HP HBY
            go_wp2_with fail
            refine (pi_take2 H1.out HMD.out H3.out (by omega)).mono ?_
            rintro e w8 ⟨Aq, Nq, cq, hs', bs', cb', p2, rfl, hPZ, hTp, hTq, hTN, hTM, hR8⟩
            have HPZ := Aside0.mk hPZ
            have HTp := Aside0.mk hTp
            have HTq := Aside0.mk hTq
            have HTN := Aside0.mk hTN
            have HTM := Aside0.mk hTM
            have HR8 := Aside0.mk hR8
            have HTY8 := Aside0.mk (Kd.R_typed hR8)
            clear hPZ hTp hTq hTN hTM hR8 H1 HX7 hbx0 hbx1
            go_wp2
            go_loopw [18, 81] (fun v18 v81 wr => ∃ (s : Nat) (ds : List Int) (u18 : Value), u18 = v18 ∧ v81 = .int .i64 s ∧ s ≤ md ∧ Aside0 (ds.length = md) ∧ Aside0 (Kd.R (Kd.int .u8) 5 wr w.heap.size (fun _ => True) (.slice A5 md c5) ds) ∧ Aside0 (Kept w8 wr (fun k => some k = (Value.slice A5 md c5).ownBlock)) ∧ Aside0 (Below w.heap.size w8 wr)) (fun _ v81 _ => md - (intOf v81).toNat)
            case atStart => exact ⟨0, d, _, rfl, rfl, Nat.zero_le _, HMD, HR8, ⟨Kept.refl _ _⟩, ⟨Below.refl _ _⟩⟩
            case round =>
              obtain ⟨s, ds, u18, rfl, rfl, hs9, HDL, HRO, HKO, HBO⟩ := hrel
              obtain ⟨wo, rfl⟩ : ∃ wo : World, wo = wr := ⟨_, rfl⟩
              by_cases hsm : s < md
              · obtain ⟨g5, c5', e5, hRs⟩ := rowA_form HDL.out (by omega) HRO.out
                injection e5 with e5 _ e5'
                subst e5 e5'
                obtain ⟨hk, hkf⟩ := Kd.R_celln (0 : Int) HRO.out (s : Int) (by omega) (by omega)
                rw [Int.toNat_natCast] at hk hkf
                obtain ⟨y, hy⟩ : ∃ y, rdOf (0 : Int) ds (s : Int) = y := ⟨_, rfl⟩
                rw [hy] at hk
                have hs0 : (0 : Int) ≤ (s : Int) := by omega
                have hsmi : (s : Int) < (md : Int) := by omega
                clear hy hRs
                go_wp2
                go_roundw
                case rel => exact ⟨s + 1, ds.set s ((y + 1) % 256), _, rfl, by go_num, by omega, ⟨by rw [List.length_set]; exact HDL.out⟩, ⟨Kd.R_putn HRO.out (s : Int) ((y + 1) % 256)⟩, ⟨kept_set HKO.out (p := ⟨g5, s, none⟩) rfl _⟩, ⟨HBO.out.setCell (p := ⟨g5, s, none⟩) (Kd.R_base HRO.out g5 rfl) _⟩⟩
                case measure => simp [intOf]; omega
              · obtain rfl : s = md := by omega
                have HPV := Aside0.mk (HPZ.out.over HKO.out HTY8.out HBO.out)
                have HTP2 := Aside0.mk (HTp.out.over HKO.out HTY8.out)
                have HTQ2 := Aside0.mk (HTq.out.over HKO.out HTY8.out)
                clear HPZ HTp HTq HRO HKO HBO HTY8
                obtain ⟨Ap, cp, ep, _, hCp⟩ := HTP2.out.reads
                obtain ⟨Aq', cq', eq', _, hCq⟩ := HTQ2.out.reads
                rw [HTN.out] at ep hCp
                rw [HTM.out] at eq' hCq
                injection ep with ep _ ep3
                subst ep ep3
                injection eq' with eq' _ eq3
                subst eq' eq3
                have HCp := Aside0.mk hCp
                have HCq := Aside0.mk hCq
                clear hCp hCq HTP2 HTQ2
                have hpw := parts_walk Ao Aq No Nq co cq T T wo HTN.out HTM.out HCp.out HCq.out hNo6 HDY.out.1 HDY.out.1
                rw [show decide (T = T) = true from decide_eq_true rfl] at hpw
                have HPW := Aside0.mk hpw
                clear hpw
                go_wp2_with fail
                refine HPW.out.mono ?_
                rintro e w9 ⟨rfl, hd9⟩
                clear HPW
                have HP9 := Aside0.mk (HPV.out.below (drawn_below hd9))
                clear hd9
                clear HPV HCp HCq HTN HTM
                obtain ⟨bd, hbd⟩ : ∃ bd, ((p2 : Int) == (n : Int)) = bd := ⟨_, rfl⟩
                have HBD := Aside0.mk hbd
                clear hbd
                go_wp2_with fail
                refine (pi_nextR HP9.out).mono ?_
                rintro e w10 ⟨rfl, rfl⟩
                go_wp2_with fail
                refine (pi_nextX HP9.out).mono ?_
                rintro e w11 ⟨rfl, rfl⟩
                go_wp2_with fail
                refine (rv_held HP9.out.rv).mono ?_
                rintro e w12 ⟨rfl, rfl⟩
                go_wp2_with fail
                refine (pi_heldX HP9.out).mono ?_
                rintro e w13 ⟨rfl, rfl⟩
                go_wp2_with fail
                refine (rv_ranges HP9.out.rv).mono ?_
                rintro e w14 ⟨A6, N6, c6, rfl, hN6, hR6, hb6⟩
                have HP14 := Aside0.mk (HP9.out.below hb6)
                have HN6 := Aside0.mk hN6
                have HR6 := Aside0.mk hR6
                clear hN6 hR6 hb6 HP9
                go_wp2_with fail
                refine (pi_rangesX HP14.out).mono ?_
                rintro e w15 ⟨A7, N7, c7, rfl, hN7, hR7, hb7⟩
                have HP15 := Aside0.mk (HP14.out.below hb7)
                have HC6 := Aside0.mk (Kd.R_reads' (Kd.R_below HR6.out hb7)).2.2
                have HC7 := Aside0.mk (Kd.R_reads' hR7).2.2
                have HN7 := Aside0.mk hN7
                have hN64 : N6 ≤ 4 := by have := rgL_len (L'.map Prod.fst); have := HN6.out; omega
                rw [HN6.out] at HC6
                rw [hN7] at HC7
                have hsw := sameR_walk A6 A7 N6 N7 c6 c7 _ _ w15 HN6.out HN7.out HC6.out HC7.out (by omega)
                rw [show decide (rgL (L'.map Prod.fst) [] = rgL (L'.map Prod.fst) []) = true from decide_eq_true rfl] at hsw
                have HSW := Aside0.mk hsw
                clear hsw
                clear hN7 hR7 hb7 HR6 HP14
                go_wp2_with fail
                refine HSW.out.mono ?_
                rintro e w16 ⟨rfl, hd16⟩
                have HP16 := Aside0.mk (HP15.out.below (drawn_below hd16))
                clear hd16
                clear HP15 HSW HC6 HC7 HN6 HN7
                go_wp2_with fail
                refine (rv_done HP16.out.rv).mono ?_
                rintro e w17 ⟨rfl, hd17⟩
                have HP17 := Aside0.mk (HP16.out.below (drawn_below hd17))
                clear hd17
                clear HP16
                have hbd := HBD.out
                rw [hbd]
                go_wp2_with fail
                refine (pi_nextX HP17.out).mono ?_
                rintro e w18 ⟨rfl, rfl⟩
                go_wp2
                go_roundw
                case rel => exact ⟨t + 1, p2, _, _, _, _, _, _, _, L', hs', bs', cb', rfl, rfl, rfl, rfl, rfl, rfl, rfl, by go_num, by omega, HP17, ⟨HDY.out.2⟩⟩
                case measure => simp [intOf]; omega
          · obtain rfl : t = m := by omega
            go_wp2
            go_ret
            exact ⟨rfl, HP.out.bl⟩
end Go.Proofs.Ythkiedkifhloeaa.Lib
