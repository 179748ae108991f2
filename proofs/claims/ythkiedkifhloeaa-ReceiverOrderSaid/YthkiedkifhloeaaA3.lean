/- ReceiverOrder: the row. -/
import Derived.Test.YthkiedkifhloeaaV10
namespace Go.Proofs.Ythkiedkifhloeaa.Lib
open Go.RowKit Go.Proofs.YthkiedkifhloeaaW.PrintWords Go.Proofs.YthkiedkifhloeaaW.PrintLast Go.Proofs.YthkiedkifhloeaaW.PrintMore
attribute [local go_sem] max2_int min2_int max_two min_two max_three min_three max_four min_four
set_option linter.unusedVariables false
set_option linter.unusedSimpArgs false
theorem info4 : (Try.prog.info? 4).map (fun i => (i.zero, i.size, i.bytes)) = some (some (.bool false), 1, 1) := by kernel_rfl
set_option maxHeartbeats 8000000 in
set_option maxRecDepth 100000 in
theorem order_row (nq win : Int) (A2 : Option Addr) (c2 : Nat) (items : List It) (w : World) (hw0 : (Lit.int .u8 nq).wf = true) (hw1 : (Lit.int .u8 win).wf = true) (hr2 : Kd.C k38 w A2 items.length items) (hc2 : items.length ≤ c2)
    (hw2 : items.length ≤ 9223372036854775807 ∧ items.length * 32 ≤ 140737488351232 ∧ ∀ x ∈ items, ((Lit.int .i64 x.1).wf = true ∧ (x.2.length ≤ 9223372036854775807 ∧ x.2.length * 1 ≤ 140737488351232 ∧ ∀ b ∈ x.2, (Lit.int .u8 b).wf = true))) :
    Calls Try.prog 5 #[.int .u8 nq, .int .u8 win, .slice A2 items.length c2] w fun e w' => e = .returned (.bool true) ∧ Below w.heap.size w w' := by
  have hs0 := Bytes.of (l := [nq]) (by simpa using hw0) nq (by simp)
  have hs1 := Bytes.of (l := [win]) (by simpa using hw1) win (by simp)
  have HOK := Aside0.mk hw2.2.2
  have hm9 : items.length ≤ 5000000000000 := by have := hw2.2.1; omega
  obtain ⟨m, hm⟩ : ∃ m, items.length = m := ⟨_, rfl⟩
  rw [hm] at hr2 hc2 hm9 ⊢
  have HM := Aside0.mk hm
  have HR := Aside0.mk hr2
  obtain ⟨n, rfl⟩ : ∃ n : Nat, nq = (n : Int) := ⟨nq.toNat, by omega⟩
  have hn255 : n ≤ 255 := by omega
  obtain ⟨ww, hww, hw64⟩ : ∃ ww : Int, 1 + win % 64 = ww ∧ 1 ≤ ww ∧ ww ≤ 64 := by
    have h3 := Int.emod_nonneg win (show (64 : Int) ≠ 0 by omega)
    have h4 := Int.emod_lt_of_pos win (show 0 < (64 : Int) by omega)
    exact ⟨1 + win % 64, rfl, by omega, by omega⟩
  have HWW := Aside0.mk (And.intro hww hw64)
  clear hr2 hc2 hw0 hw1 hw2 hm hww hw64
  go_enter Try.func5, Try.ntmps5
  go_wp2_with fail
  refine (fixed_walk w).mono ?_
  rintro e w1 ⟨rfl, hb1⟩
  have HB1 := Aside0.mk hb1
  clear hb1
  go_wp2_with fail
  rw [HWW.out.1]
  refine (rv_new (n : Int) ww w1 tru ⟨by omega, by omega⟩ HWW.out.2).mono ?_
  rintro e w2 ⟨g, mb, rfl, hV2, hb2⟩
  have HB2 := Aside0.mk (below_then HB1.out HB1.out.size hb2)
  have HV2 := Aside0.mk (show Rv w2 w.heap.size tru g mb (n : Int) ww 0 [] from ⟨hV2.rv.imp (fun F h => ⟨h.1, h.2.1.mono (fun a b hab => Kd.R_lower hab HB1.out.size), h.2.2⟩), Nat.le_trans HB1.out.size hV2.ge.1, Nat.le_trans HB1.out.size hV2.ge.2⟩)
  clear hV2 hb2
  go_wp2_with fail
  refine (few_walk A2 m c2 items w w2 HM.out HR.out HB2.out (fun x hx => by have := (HOK.out x hx).2.2.1; omega) hm9).mono ?_
  rintro e w3 ⟨b, rfl, hF, hb3⟩
  cases b with
  | false =>
    go_wp2
    go_ret
    exact ⟨rfl, below_then HB2.out HB2.out.size hb3⟩
  | true =>
    have HF := Aside0.mk (hF rfl)
    have HB3 := Aside0.mk (below_then HB2.out HB2.out.size hb3)
    have HV3 := Aside0.mk (HV2.out.below hb3)
    clear hF hb3 HV2 HB2
    go_wp2_with (first
      | ((with_reducible refine gate_dst (N := 39) rfl ?_); refine Kd.R_make ksl (w0 := w3) w3.heap.size 22 rfl (N := 39) rfl 24 (.tmp 38) (.tmp 38) rfl (n : Int) rfl rfl Try.underlying24 (.slice none 0 0) 24 info22 rfl (by decide) (by decide) zh (ok := fun _ => True) (okp := fun _ => True) rfl (fun _ _ => trivial) trivial (by omega) (by omega) (Below.refl _ _) (Nat.le_refl _) ?_; intro v4 w4 ho4 hb4 hg4 hat4; clear hg4 hat4; rw [Int.toNat_natCast] at ho4; have HO4 := Aside0.mk ho4; have HB4 := Aside0.mk hb4; clear ho4 hb4)
      | ((with_reducible refine gate_dst (N := 42) rfl ?_); refine Kd.R_make Kd.bool (w0 := w4) w4.heap.size 4 rfl (N := 42) rfl 45 (.tmp 41) (.tmp 41) rfl (n : Int) rfl rfl Try.underlying45 (.bool false) 1 info4 rfl (by decide) (by decide) false (ok := fun _ => True) (okp := fun _ => True) rfl (fun _ _ => trivial) trivial (by omega) (by omega) (Below.refl _ _) (Nat.le_refl _) ?_; intro v5 w5 ho5 hb5 hg5 hat5; clear hg5 hat5; rw [Int.toNat_natCast] at ho5; have HO5 := Aside0.mk ho5; have HB5 := Aside0.mk hb5; clear ho5 hb5))
    obtain ⟨A10, c10, rfl⟩ := Kd.R_slice HO4.out
    obtain ⟨A11, c11, rfl⟩ := Kd.R_slice HO5.out
    rw [List.length_replicate, List.length_replicate] at *
    have HB34 := Aside0.mk (below_then HB3.out HB3.out.size HB4.out)
    have HO0 := Aside0.mk (show OI w w5 g mb n ww 0 (.slice A10 n c10) (.slice A11 n c11) (List.replicate n zh) (List.replicate n false) (List.replicate n []) [] from
      ⟨(HV3.out.below HB4.out).below HB5.out, Kd.R_lower (Kd.R_below HO4.out HB5.out) HB3.out.size, Kd.R_lower HO5.out HB34.out.size, List.length_replicate, List.length_replicate, (fun j hj h => by
        rw [List.getD_eq_getElem?_getD, List.getElem?_replicate, if_pos hj] at h
        cases h), below_then HB34.out HB34.out.size HB5.out⟩)
    have HP0 := Aside0.mk (PO.new n ww (by omega) HWW.out.2)
    clear HB3 HV3 HO4 HO5 HB4 HB5 HB34
    go_loopw [12, 14, 15, 16, 18, 45] (fun v12 v14 v15 v16 v18 v45 wr => ∃ (t p : Nat) (u14 u15 u16 u18 : Value) (hs : List Hd) (bs : List Bool) (cb : List (List Int)) (L : List (Int × List Int)), u14 = v14 ∧ u15 = v15 ∧ u16 = v16 ∧ u18 = v18 ∧ v45 = .int .i64 t ∧ v12 = .int .i64 p ∧ t ≤ m ∧ p ≤ n ∧ Aside0 (OI w wr g mb n ww (p : Int) (.slice A10 n c10) (.slice A11 n c11) hs bs cb L) ∧ Aside0 (PO n ww (p : Int) L bs cb)) (fun _ _ _ _ _ v45 _ => m - (intOf v45).toNat)
    case atStart => exact ⟨0, 0, _, _, _, _, _, _, _, _, rfl, rfl, rfl, rfl, rfl, rfl, Nat.zero_le _, Nat.zero_le _, HO0, HP0⟩
    case round =>
      obtain ⟨t, p, u14, u15, u16, u18, hs, bs, cb, L, rfl, rfl, rfl, rfl, rfl, rfl, ht, hpn0, HO, HP⟩ := hrel
      by_cases hlt : t < m
      · obtain ⟨ad, A1, c1, rfl, hx0, hx1, h2, h3⟩ := it_at HR.out HO.out.bl t hlt
        obtain ⟨hwfx, _, hm7, hby⟩ := HOK.out (items.getD t zi) (by rw [List.getD_eq_getElem?_getD, List.getElem?_eq_getElem (by rw [HM.out]; exact hlt)]; simp)
        have hm30 : (items.getD t zi).2.length ≤ 3000 := Nat.le_trans (sumI_mem items _ (by rw [List.getD_eq_getElem?_getD, List.getElem?_eq_getElem (by rw [HM.out]; exact hlt)]; simp)) HF.out.s
        obtain ⟨⟨x, d⟩, hx⟩ : ∃ v, items.getD t zi = v := ⟨_, rfl⟩
        rw [hx] at hx0 hx1 h2 h3 hwfx hm30 hby
        simp only at hx0 hx1 h2 h3 hwfx hm30 hby
        obtain ⟨md, hmd⟩ : ∃ md, d.length = md := ⟨_, rfl⟩
        rw [hmd] at hx1 h2 h3 hm30
        have HWFX := Aside0.mk hwfx
        have HMD := Aside0.mk hmd
        have H3 := Aside0.mk h3
        have H2 := Aside0.mk h2
        have ht0 : (0 : Int) ≤ (t : Int) := by omega
        have htm : (t : Int) < (m : Int) := by omega
        clear hx hmd h3 h2 hwfx hm7 hby
        obtain ⟨bx, hbx⟩ : ∃ bx, wr.heap.size = bx := ⟨_, rfl⟩
        go_wp2_with fail
        have HLb := Aside0.mk (show Below wr.heap.size wr (wr.alloc (.cells #[.int .i64 x, .slice A1 md c1] 38)) from below_alloc (Below.refl _ _) _)
        have HBXc := Aside0.mk (show (wr.alloc (.cells #[.int .i64 x, .slice A1 md c1] 38)).heap[bx]? = some (.cells #[.int .i64 x, .slice A1 md c1] 38 (0, 0)) from by subst hbx; exact heap_alloc_new wr _)
        refine (oi_take (HO.out.below HLb.out) (by omega) x HWFX.out A1 md c1 d HMD.out (Kd.C_below H3.out (below_then HO.out.bl HO.out.bl.size HLb.out)) (by omega)).mono ?_
        rintro e w7 ⟨Ao, No, co, bb, nx', L', T, rfl, hTd, hTN, hO7, hor, hfr, hty⟩
        have hx7 := (hty bx 38 (by decide) ⟨_, HBXc.out⟩).trans HBXc.out
        have HX7 := Aside0.mk hx7
        have HTD := Aside0.mk hTd
        have HTN := Aside0.mk hTN
        have HO7 := Aside0.mk hO7
        have HFR := Aside0.mk hfr
        clear hTd hTN hO7 hty hx7 hfr HLb HBXc hx0 hx1
        rcases hor with ⟨rfl, rfl, rfl, hT⟩ | ⟨rfl, a, rfl, hpa, han, haw, hat, hpop⟩
        · have hNo : No = 0 := by rw [← HTN.out, hT]; rfl
          obtain ⟨p2, hp2⟩ : ∃ p2 : Nat, p2 = p := ⟨_, rfl⟩
          obtain ⟨wz, rfl⟩ : ∃ wz : World, wz = w7 := ⟨_, rfl⟩
          obtain ⟨hs2, rfl⟩ : ∃ hs2, hs2 = hs := ⟨_, rfl⟩
          obtain ⟨bs2, rfl⟩ : ∃ bs2, bs2 = bs := ⟨_, rfl⟩
          obtain ⟨cb2, rfl⟩ : ∃ cb2, cb2 = cb := ⟨_, rfl⟩
          have HOZ := HO7
          have HPO := Aside0.mk (show PO n ww (p2 : Int) L' bs2 cb2 from hp2 ▸ HP.out)
          rw [show ((p : Nat) : Int) = (p2 : Int) from by rw [hp2]] at HOZ
          have HTZ := HTD
          have hpN : p + No = p2 := by omega
          have HTS := Aside0.mk (show ∀ s, s < No → T.getD s [] = cb2.getD (p + s) [] ∧ bs2.getD (p + s) false = true from fun s h => absurd h (by omega))
          clear HO7 HTD HO HP hp2 hNo hT
          have hp2n : p2 ≤ n := by have := HPO.out.b.n1; omega
          have hN9 : No ≤ 9223372036854775807 := by omega
          go_wp2
          go_loopw [12, 18, 88] (fun v12 v18 v88 wr => ∃ (s q : Nat) (u18 : Value), u18 = v18 ∧ v88 = .int .i64 s ∧ v12 = .int .i64 (p + s : Nat) ∧ s ≤ No ∧ wr = wz.drewN q) (fun _ _ v88 _ => No - (intOf v88).toNat)
          case atStart => exact ⟨0, 0, _, rfl, rfl, rfl, Nat.zero_le _, rfl⟩
          case round =>
            obtain ⟨s, q, u18, rfl, rfl, rfl, hs5, rfl⟩ := hrel
            have HOq := Aside0.mk (HOZ.out.below (pw_below_drewN (Below.refl _ _) q))
            have HTq := Aside0.mk (HTZ.out.below (pw_below_drewN (Below.refl _ _) q))
            obtain ⟨W, hW⟩ : ∃ W, wz.drewN q = W := ⟨_, rfl⟩
            rw [hW] at HOq HTq ⊢
            have HW := Aside0.mk hW
            clear hW
            by_cases hsN : s < No
            · obtain ⟨go, A8, m8, c8, rfl, hcs, hm8, hmc8, hC8⟩ := HTq.out.at_ HTN.out s hsN
              obtain ⟨hts1, hts2⟩ := HTS.out s hsN
              have hpn : p + s < n := by omega
              obtain ⟨g10, c10', e10, _⟩ := rowA_form HOq.out.lh (by omega) HOq.out.cm
              injection e10 with e10 _ e10'
              subst e10 e10'
              obtain ⟨g11, c11', e11, _⟩ := rowA_form HOq.out.lb (by omega) HOq.out.is
              injection e11 with e11 _ e11'
              subst e11 e11'
              obtain ⟨k1, k2, _, _⟩ := HOq.out.cells (p + s) hpn
              obtain ⟨j1, j2, j3⟩ := HOq.out.at_ (p + s) hpn hts2
              obtain ⟨⟨A9, m9, c9⟩, hx9⟩ : ∃ x, hs2.getD (p + s) zh = x := ⟨_, rfl⟩
              rw [hx9] at k1 j1 j2 j3
              simp only at k1 j1 j2 j3
              rw [hts2] at k2
              have hca : ∀ j, (convert 22 9 (.slice A8 m8 c8)).run Try.prog (W.drewN j) = .ok (.string (strOfNums (T.getD s []))) (W.drewN j) := fun j => Kd.C_string (P := Try.prog) (A := A8) (c := c8) Try.underlying22 Try.underlying5 Try.underlying9 (Kd.C_drewN hC8 j)
              have hcb : ∀ j, (convert 22 9 (.slice A9 m9 c9)).run Try.prog (W.drewN j) = .ok (.string (strOfNums (T.getD s []))) (W.drewN j) := fun j => by
                have h1 := Kd.C_string (P := Try.prog) (A := A9) (c := c9) Try.underlying22 Try.underlying5 Try.underlying9 (Kd.C_drewN (Kd.C_below j3 HOq.out.bl) j)
                rw [← j1, ← hts1] at h1
                exact h1
              obtain ⟨ss, hss⟩ : ∃ ss, strOfNums (T.getD s []) = ss := ⟨_, rfl⟩
              rw [hss] at hca hcb
              have hge : decide ((n : Int) ≤ ((p : Int) + (s : Int))) = false := decide_eq_false (by omega)
              have hps0 : (0 : Int) ≤ (p : Int) + (s : Int) := by omega
              have hpsn : (p : Int) + (s : Int) < (n : Int) := by omega
              have hs0i : (0 : Int) ≤ (s : Int) := by omega
              have hsNi : (s : Int) < (No : Int) := by omega
              have hpt : ((p : Int) + (s : Int)).toNat = p + s := by omega
              clear hm8 hC8 hts1 hts2 j1 j2 j3 hx9 hss
              go_wp2
              go_quiet (fail)
              go_wp2
              go_roundw
              case rel => exact ⟨s + 1, q + nq, _, rfl, by go_num, by go_num, by omega, by rw [← HW.out, World.drewN_drewN]⟩
              case measure => simp [intOf]; omega
            · obtain rfl : s = No := by omega
              have hps : p + s = p2 := by omega
              rw [hps]
              have hwl : decide (ww ≤ (L'.length : Int)) = false := decide_eq_false (by have := HPO.out.b.len; omega)
              clear hps
              by_cases hpl : p2 < n
              · have hd1 : decide ((p2 : Int) < (n : Int)) = true := decide_eq_true (by omega)
                obtain ⟨g10, c10', e10, _⟩ := rowA_form HOq.out.lh (by omega) HOq.out.cm
                injection e10 with e10 _ e10'
                subst e10 e10'
                obtain ⟨g11, c11', e11, _⟩ := rowA_form HOq.out.lb (by omega) HOq.out.is
                injection e11 with e11 _ e11'
                subst e11 e11'
                obtain ⟨_, k2, _, _⟩ := HOq.out.cells p2 hpl
                have hnx := HPO.out.next (by omega)
                rw [Int.toNat_natCast] at hnx
                rw [hnx] at k2
                have hp0 : (0 : Int) ≤ (p2 : Int) := by omega
                have hpn : (p2 : Int) < (n : Int) := by omega
                clear hnx
                go_wp2_with fail
                refine (rv_next HOq.out.rv).mono ?_
                rintro e w8 ⟨rfl, rfl⟩
                go_wp2_with fail
                refine (rv_held HOq.out.rv).mono ?_
                rintro e w9 ⟨rfl, rfl⟩
                go_wp2_with fail
                refine (rv_done HOq.out.rv).mono ?_
                rintro e w10 ⟨rfl, q10, rfl⟩
                have HZ := Aside0.mk (HOq.out.below (pw_below_drewN (Below.refl _ _) q10))
                go_wp2
                go_roundw
                case rel => exact ⟨t + 1, p2, _, _, _, _, hs2, bs2, cb2, L', rfl, rfl, rfl, rfl, by go_num, rfl, by omega, hp2n, HZ, HPO⟩
                case measure => simp [intOf]; omega
              · have hd1 : decide ((p2 : Int) < (n : Int)) = false := decide_eq_false (by omega)
                go_wp2_with fail
                refine (rv_next HOq.out.rv).mono ?_
                rintro e w8 ⟨rfl, rfl⟩
                go_wp2_with fail
                refine (rv_held HOq.out.rv).mono ?_
                rintro e w9 ⟨rfl, rfl⟩
                go_wp2_with fail
                refine (rv_done HOq.out.rv).mono ?_
                rintro e w10 ⟨rfl, q10, rfl⟩
                have HZ := Aside0.mk (HOq.out.below (pw_below_drewN (Below.refl _ _) q10))
                go_wp2
                go_roundw
                case rel => exact ⟨t + 1, p2, _, _, _, _, hs2, bs2, cb2, L', rfl, rfl, rfl, rfl, by go_num, rfl, by omega, hp2n, HZ, HPO⟩
                case measure => simp [intOf]; omega
        · have han' : (a : Int) < n := by omega
          have hnt := HP.out.take ⟨hpa, han', haw⟩ hat d
          rw [hpop] at hnt
          obtain ⟨hba, hP2, hlen, hts⟩ := hnt
          simp only at hP2 hlen hts
          rw [HTN.out] at hlen hts
          obtain ⟨g10, c10', e10, _⟩ := rowA_form HO7.out.lh (by omega) HO7.out.cm
          injection e10 with e10 _ e10'
          subst e10 e10'
          obtain ⟨g11, c11', e11, _⟩ := rowA_form HO7.out.lb (by omega) HO7.out.is
          injection e11 with e11 _ e11'
          subst e11 e11'
          obtain ⟨_, k2, f1, f2⟩ := HO7.out.cells a han
          rw [hba] at k2
          have hx70 := blk_cell HX7.out 0
          have hx71 := blk_cell HX7.out 1
          have ha0 : (0 : Int) ≤ (a : Int) := by omega
          have ha1 : decide ((a : Int) < 0) = false := decide_eq_false (by omega)
          have ha2 : decide ((n : Int) ≤ (a : Int)) = false := decide_eq_false (by omega)
          obtain ⟨cs10, hT10⟩ := Kd.R_typed HO7.out.cm g10 rfl
          obtain ⟨cs11, hT11⟩ := Kd.R_typed HO7.out.is g11 rfl
          have hne10 : bx ≠ g10 := by
            rintro rfl
            have h := HX7.out
            rw [hT10] at h
            injection h with h
            injection h with _ h
            cases h
          have hneb : bx ≠ g11 := by
            rintro rfl
            have h := HX7.out
            rw [hT11] at h
            injection h with h
            injection h with _ h
            cases h
          have hne11 : g11 ≠ g10 := by
            rintro rfl
            rw [hT10] at hT11
            injection hT11 with h
            injection h with _ h
            cases h
          go_wp2
          clear k2 hba
          refine start_ (n := 12) (S := fun w' => w'.cell? ⟨bx, 0, none⟩ = some (.int .i64 (a : Int)) ∧ w'.cell? ⟨bx, 1, none⟩ = some (.slice A1 md c1)) (ds := []) #[false, false, false, false, false, false, false, false, false, false, false, false] (by kernel_rfl) rfl rfl (⟨hx70, hx71⟩) (fun hHeld => ?_)
          obtain ⟨wd, hwd⟩ : ∃ wd, w7.drew = wd := ⟨_, rfl⟩
          have HXd := Aside0.mk (show wd.heap[bx]? = some (.cells #[.int .i64 (a : Int), .slice A1 md c1] 38 (0, 0)) from by rw [← hwd]; exact HX7.out)
          have hTd10 : wd.heap[g10]? = some (.cells cs10 22 (0, 0)) := by rw [← hwd]; exact hT10
          have hTd11 : wd.heap[g11]? = some (.cells cs11 4 (0, 0)) := by rw [← hwd]; exact hT11
          have HOd := Aside0.mk (show OI w wd g mb n ww nx' (.slice (some ⟨g10, 0, none⟩) n c10) (.slice (some ⟨g11, 0, none⟩) n c11) hs bs cb L' from by rw [← hwd]; exact HO7.out.below (below_drew (Below.refl _ _)))
          have HTd2 := Aside0.mk (show Told ((wd.setCell ⟨g10, a, none⟩ (.slice A1 md c1)).setCell ⟨g11, a, none⟩ (.bool true)) w.heap.size tru (.slice Ao No co) T from told_note (by rw [← hwd]; exact HTD.out.below (below_drew (Below.refl _ _))) hTd10 hTd11 (fun k e => by have h1 := HFR.out k e; have h2 := Kd.R_lt HO.out.cm g10 rfl; simp at h1; omega) _ _)
          rw [hwd] at hHeld ⊢
          obtain ⟨hk1, hk2, _, _⟩ := HOd.out.cells a han
          have hfz1 : wd.frozen? ⟨g10, a, none⟩ = false := blk_frozen hTd10 a
          have hfz2 : (wd.setCell ⟨g10, a, none⟩ (.slice A1 md c1)).frozen? ⟨g11, a, none⟩ = false := blk_frozen (blk_far hTd11 (p := ⟨g10, a, none⟩) hne11 _) a
          refine pure_ (i := 0) (N := some 76) (v := ?_) (a' := ?_) #[true, false, false, false, false, false, false, false, false, false, false, false] rfl rfl (by kernel_rfl) (fun _ _ _ h => h) (Or.inl ⟨by rfl, ?_⟩) ?_ ?_
          rotate_left
          · intro w'
            go_simp
            with_reducible rfl
          rotate_left
          · simp only [Act.put, List.setIfInBounds_toArray, List.set_cons_zero, List.set_cons_succ, i64_w, i32_w]
            rfl
          refine pure_ (i := 1) (N := some 77) (v := ?_) (a' := ?_) #[true, true, false, false, false, false, false, false, false, false, false, false] rfl rfl (by kernel_rfl) (fun _ _ _ h => h) (Or.inl ⟨by rfl, ?_⟩) ?_ ?_
          rotate_left
          · intro w'
            go_simp
            with_reducible rfl
          rotate_left
          · simp only [Act.put, List.setIfInBounds_toArray, List.set_cons_zero, List.set_cons_succ, i64_w, i32_w]
            rfl
          refine take_ (i := 2) (N := some 78) (v := ?_) (a' := ?_) #[true, true, true, false, false, false, false, false, false, false, false, false] rfl rfl (by kernel_rfl) (fun _ _ _ h => h) (Or.inl ⟨by rfl, ?_⟩) hHeld ?_ ?_
          rotate_left
          · rintro w' ⟨s0, s1⟩
            go_simp
            with_reducible rfl
          rotate_left
          · simp only [Act.put, List.setIfInBounds_toArray, List.set_cons_zero, List.set_cons_succ, i64_w, i32_w]
            rfl
          refine pure_ (i := 3) (N := some 79) (v := ?_) (a' := ?_) #[true, true, true, true, false, false, false, false, false, false, false, false] rfl rfl (by kernel_rfl) (fun _ _ _ h => h) (Or.inl ⟨by rfl, ?_⟩) ?_ ?_
          rotate_left
          · intro w'
            go_simp
            with_reducible rfl
          rotate_left
          · simp only [Act.put, List.setIfInBounds_toArray, List.set_cons_zero, List.set_cons_succ, i64_w, i32_w]
            rfl
          refine pure_ (i := 4) (N := some 80) (v := ?_) (a' := ?_) #[true, true, true, true, true, false, false, false, false, false, false, false] rfl rfl (by kernel_rfl) (fun _ _ _ h => h) (Or.inl ⟨by rfl, ?_⟩) ?_ ?_
          rotate_left
          · intro w'
            go_simp
            with_reducible rfl
          rotate_left
          · simp only [Act.put, List.setIfInBounds_toArray, List.set_cons_zero, List.set_cons_succ, i64_w, i32_w]
            rfl
          refine take_ (i := 5) (N := some 81) (v := ?_) (a' := ?_) #[true, true, true, true, true, true, false, false, false, false, false, false] rfl rfl (by kernel_rfl) (fun _ _ _ h => h) (Or.inl ⟨by rfl, ?_⟩) hHeld ?_ ?_
          rotate_left
          · rintro w' ⟨s0, s1⟩
            go_simp
            with_reducible rfl
          rotate_left
          · simp only [Act.put, List.setIfInBounds_toArray, List.set_cons_zero, List.set_cons_succ, i64_w, i32_w]
            rfl
          refine pure_ (i := 6) (N := some 82) (v := ?_) (a' := ?_) #[true, true, true, true, true, true, true, false, false, false, false, false] rfl rfl (by kernel_rfl) (fun _ _ _ h => h) (Or.inl ⟨by rfl, ?_⟩) ?_ ?_
          rotate_left
          · intro w'
            go_simp
            with_reducible rfl
          rotate_left
          · simp only [Act.put, List.setIfInBounds_toArray, List.set_cons_zero, List.set_cons_succ, i64_w, i32_w]
            rfl
          refine take_ (i := 7) (N := some 83) (v := ?_) (a' := ?_) #[true, true, true, true, true, true, true, true, false, false, false, false] rfl rfl (by kernel_rfl) (fun _ _ _ h => h) (Or.inl ⟨by rfl, ?_⟩) hHeld ?_ ?_
          rotate_left
          · rintro w' ⟨s0, s1⟩
            go_simp
            with_reducible rfl
          rotate_left
          · simp only [Act.put, List.setIfInBounds_toArray, List.set_cons_zero, List.set_cons_succ, i64_w, i32_w]
            rfl
          refine pure_ (i := 8) (N := some 84) (v := ?_) (a' := ?_) #[true, true, true, true, true, true, true, true, true, false, false, false] rfl rfl (by kernel_rfl) (fun _ _ _ h => h) (Or.inl ⟨by rfl, ?_⟩) ?_ ?_
          rotate_left
          · intro w'
            go_simp
            with_reducible rfl
          rotate_left
          · simp only [Act.put, List.setIfInBounds_toArray, List.set_cons_zero, List.set_cons_succ, i64_w, i32_w]
            rfl
          refine one_ (i := 9) (N := none) #[true, true, true, true, true, true, true, true, true, true, false, false] rfl rfl (by kernel_rfl) (by decide) (fun K hK => ?_)
          refine skip_ (w1 := wd.setCell ⟨g10, a, none⟩ (.slice A1 md c1)) (by rfl) rfl ?_ ?_
          · go_simp
          refine hK.out _ _ (⟨blk_cell (blk_far HXd.out (p := ⟨g10, a, none⟩) hne10 _) 0, blk_cell (blk_far HXd.out (p := ⟨g10, a, none⟩) hne10 _) 1⟩) (fun _ => ?_)
          clear hK K
          refine pure_ (i := 10) (N := some 85) (v := ?_) (a' := ?_) #[true, true, true, true, true, true, true, true, true, true, true, false] rfl rfl (by kernel_rfl) (fun _ _ _ h => h) (Or.inl ⟨by rfl, ?_⟩) ?_ ?_
          rotate_left
          · intro w'
            go_simp
            with_reducible rfl
          rotate_left
          · simp only [Act.put, List.setIfInBounds_toArray, List.set_cons_zero, List.set_cons_succ, i64_w, i32_w]
            rfl
          refine one_ (i := 11) (N := none) #[true, true, true, true, true, true, true, true, true, true, true, true] rfl rfl (by kernel_rfl) (by decide) (fun K hK => ?_)
          refine skip_ (w1 := (wd.setCell ⟨g10, a, none⟩ (.slice A1 md c1)).setCell ⟨g11, a, none⟩ (.bool true)) (by rfl) rfl ?_ ?_
          · go_simp
          refine hK.out _ _ (⟨blk_cell (blk_far (blk_far HXd.out (p := ⟨g10, a, none⟩) hne10 _) (p := ⟨g11, a, none⟩) hneb _) 0, blk_cell (blk_far (blk_far HXd.out (p := ⟨g10, a, none⟩) hne10 _) (p := ⟨g11, a, none⟩) hneb _) 1⟩) (fun _ => ?_)
          clear hK K
          refine done_ (by kernel_rfl) ?_
          clear hk1 hk2 hfz1 hfz2
          have HNT := Aside0.mk (show OI w ((wd.setCell ⟨g10, a, none⟩ (.slice A1 md c1)).setCell ⟨g11, a, none⟩ (.bool true)) g mb n ww nx' (.slice (some ⟨g10, 0, none⟩) n c10) (.slice (some ⟨g11, 0, none⟩) n c11) (hs.set a (A1, md, c1)) (bs.set a true) (cb.set a d) L' from
            HOd.out.note han HMD.out H2.out H3.out HP.out.lc)
          have HTZ := Aside0.mk (show Told ((wd.setCell ⟨g10, a, none⟩ (.slice A1 md c1)).setCell ⟨g11, a, none⟩ (.bool true)) w.heap.size tru (.slice Ao No co) T from HTd2.out)
          obtain ⟨wz, hwz⟩ : ∃ wz, (wd.setCell ⟨g10, a, none⟩ (.slice A1 md c1)).setCell ⟨g11, a, none⟩ (.bool true) = wz := ⟨_, rfl⟩
          rw [hwz] at HNT HTZ ⊢
          obtain ⟨p2, hp2⟩ : ∃ p2 : Nat, (p2 : Int) = nx' := ⟨nx'.toNat, by have := hP2.b.n0; omega⟩
          have hpN : p + No = p2 := by omega
          obtain ⟨hs2, hhs2⟩ : ∃ hs2, hs.set a (A1, md, c1) = hs2 := ⟨_, rfl⟩
          obtain ⟨bs2, hbs2⟩ : ∃ bs2, bs.set a true = bs2 := ⟨_, rfl⟩
          obtain ⟨cb2, hcb2⟩ : ∃ cb2, cb.set a d = cb2 := ⟨_, rfl⟩
          rw [hhs2, hbs2, hcb2] at HNT
          rw [hbs2, hcb2] at hP2 hts
          rw [Int.toNat_natCast] at hts
          subst hp2
          have HOZ := HNT
          have HPO := Aside0.mk hP2
          have HTS := Aside0.mk hts
          clear HNT hP2 hts hlen hwz hhs2 hbs2 hcb2 HO HP hne10 hne11 hT10 hT11 hpop hat hpa haw han'
          have hp2n : p2 ≤ n := by have := HPO.out.b.n1; omega
          have hN9 : No ≤ 9223372036854775807 := by omega
          go_wp2
          go_loopw [12, 18, 88] (fun v12 v18 v88 wr => ∃ (s q : Nat) (u18 : Value), u18 = v18 ∧ v88 = .int .i64 s ∧ v12 = .int .i64 (p + s : Nat) ∧ s ≤ No ∧ wr = wz.drewN q) (fun _ _ v88 _ => No - (intOf v88).toNat)
          case atStart => exact ⟨0, 0, _, rfl, rfl, rfl, Nat.zero_le _, rfl⟩
          case round =>
            obtain ⟨s, q, u18, rfl, rfl, rfl, hs5, rfl⟩ := hrel
            have HOq := Aside0.mk (HOZ.out.below (pw_below_drewN (Below.refl _ _) q))
            have HTq := Aside0.mk (HTZ.out.below (pw_below_drewN (Below.refl _ _) q))
            obtain ⟨W, hW⟩ : ∃ W, wz.drewN q = W := ⟨_, rfl⟩
            rw [hW] at HOq HTq ⊢
            have HW := Aside0.mk hW
            clear hW
            by_cases hsN : s < No
            · obtain ⟨go, A8, m8, c8, rfl, hcs, hm8, hmc8, hC8⟩ := HTq.out.at_ HTN.out s hsN
              obtain ⟨hts1, hts2⟩ := HTS.out s hsN
              have hpn : p + s < n := by omega
              obtain ⟨k1, k2, _, _⟩ := HOq.out.cells (p + s) hpn
              obtain ⟨j1, j2, j3⟩ := HOq.out.at_ (p + s) hpn hts2
              obtain ⟨⟨A9, m9, c9⟩, hx9⟩ : ∃ x, hs2.getD (p + s) zh = x := ⟨_, rfl⟩
              rw [hx9] at k1 j1 j2 j3
              simp only at k1 j1 j2 j3
              rw [hts2] at k2
              have hca : ∀ j, (convert 22 9 (.slice A8 m8 c8)).run Try.prog (W.drewN j) = .ok (.string (strOfNums (T.getD s []))) (W.drewN j) := fun j => Kd.C_string (P := Try.prog) (A := A8) (c := c8) Try.underlying22 Try.underlying5 Try.underlying9 (Kd.C_drewN hC8 j)
              have hcb : ∀ j, (convert 22 9 (.slice A9 m9 c9)).run Try.prog (W.drewN j) = .ok (.string (strOfNums (T.getD s []))) (W.drewN j) := fun j => by
                have h1 := Kd.C_string (P := Try.prog) (A := A9) (c := c9) Try.underlying22 Try.underlying5 Try.underlying9 (Kd.C_drewN (Kd.C_below j3 HOq.out.bl) j)
                rw [← j1, ← hts1] at h1
                exact h1
              obtain ⟨ss, hss⟩ : ∃ ss, strOfNums (T.getD s []) = ss := ⟨_, rfl⟩
              rw [hss] at hca hcb
              have hge : decide ((n : Int) ≤ ((p : Int) + (s : Int))) = false := decide_eq_false (by omega)
              have hps0 : (0 : Int) ≤ (p : Int) + (s : Int) := by omega
              have hpsn : (p : Int) + (s : Int) < (n : Int) := by omega
              have hs0i : (0 : Int) ≤ (s : Int) := by omega
              have hsNi : (s : Int) < (No : Int) := by omega
              have hpt : ((p : Int) + (s : Int)).toNat = p + s := by omega
              clear hm8 hC8 hts1 hts2 j1 j2 j3 hx9 hss
              go_wp2
              go_quiet (fail)
              go_wp2
              go_roundw
              case rel => exact ⟨s + 1, q + nq, _, rfl, by go_num, by go_num, by omega, by rw [← HW.out, World.drewN_drewN]⟩
              case measure => simp [intOf]; omega
            · obtain rfl : s = No := by omega
              have hps : p + s = p2 := by omega
              rw [hps]
              have hwl : decide (ww ≤ (L'.length : Int)) = false := decide_eq_false (by have := HPO.out.b.len; omega)
              clear hps
              by_cases hpl : p2 < n
              · have hd1 : decide ((p2 : Int) < (n : Int)) = true := decide_eq_true (by omega)
                obtain ⟨_, k2, _, _⟩ := HOq.out.cells p2 hpl
                have hnx := HPO.out.next (by omega)
                rw [Int.toNat_natCast] at hnx
                rw [hnx] at k2
                have hp0 : (0 : Int) ≤ (p2 : Int) := by omega
                have hpn : (p2 : Int) < (n : Int) := by omega
                clear hnx
                go_wp2_with fail
                refine (rv_next HOq.out.rv).mono ?_
                rintro e w8 ⟨rfl, rfl⟩
                go_wp2_with fail
                refine (rv_held HOq.out.rv).mono ?_
                rintro e w9 ⟨rfl, rfl⟩
                go_wp2_with fail
                refine (rv_done HOq.out.rv).mono ?_
                rintro e w10 ⟨rfl, q10, rfl⟩
                have HZ := Aside0.mk (HOq.out.below (pw_below_drewN (Below.refl _ _) q10))
                go_wp2
                go_roundw
                case rel => exact ⟨t + 1, p2, _, _, _, _, hs2, bs2, cb2, L', rfl, rfl, rfl, rfl, by go_num, rfl, by omega, hp2n, HZ, HPO⟩
                case measure => simp [intOf]; omega
              · have hd1 : decide ((p2 : Int) < (n : Int)) = false := decide_eq_false (by omega)
                go_wp2_with fail
                refine (rv_next HOq.out.rv).mono ?_
                rintro e w8 ⟨rfl, rfl⟩
                go_wp2_with fail
                refine (rv_held HOq.out.rv).mono ?_
                rintro e w9 ⟨rfl, rfl⟩
                go_wp2_with fail
                refine (rv_done HOq.out.rv).mono ?_
                rintro e w10 ⟨rfl, q10, rfl⟩
                have HZ := Aside0.mk (HOq.out.below (pw_below_drewN (Below.refl _ _) q10))
                go_wp2
                go_roundw
                case rel => exact ⟨t + 1, p2, _, _, _, _, hs2, bs2, cb2, L', rfl, rfl, rfl, rfl, by go_num, rfl, by omega, hp2n, HZ, HPO⟩
                case measure => simp [intOf]; omega
      · obtain rfl : t = m := by omega
        go_wp2
        go_ret
        exact ⟨rfl, HO.out.bl⟩
end Go.Proofs.Ythkiedkifhloeaa.Lib
