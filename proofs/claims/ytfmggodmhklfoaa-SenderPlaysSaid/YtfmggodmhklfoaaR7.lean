/- the document's sender: Ack: walked by hand. -/
import Derived.Test.YtfmggodmhklfoaaR8
namespace Go.Proofs.Ytfmggodmhklfoaa.Lib
open Go.RowKit Go.Shelf Go.Proofs.YtfmggodmhklfoaaW.PrintWords Go.Proofs.YtfmggodmhklfoaaW.PrintLast Go.Proofs.YtfmggodmhklfoaaW.PrintMore
set_option linter.unusedVariables false
set_option linter.unusedSimpArgs false
attribute [local go_sem] max2_int min2_int max_two min_two
/-- the document's sender, in a call -/
structure RkS (w W : World) (n₀ g : Nat) (c : Cfg) (nw : Int) (vs : Value) (xs : List S57) : Prop where
  rf : IsRf W n₀ g c nw vs xs
  left : Left w W n₀ g vs vs
theorem RkS.ext {w W W1 : World} {n₀ g : Nat} {c : Cfg} {nw : Int} {vs : Value} {xs : List S57} (h : RkS w W n₀ g c nw vs xs) (hb : Below W.heap.size W W1) : RkS w W1 n₀ g c nw vs xs :=
  ⟨h.rf.ext hb, h.left.trans ⟨KeepBut.of_below hb _ _, hb.mono (Nat.le_of_lt h.rf.lt), .inl rfl⟩⟩
theorem RkS.set1 {w W : World} {n₀ g gb o n cap : Nat} {c : Cfg} {nw : Int} {xs : List S57} (h : RkS w W n₀ g c nw (.slice (some ⟨gb, o, none⟩) n cap) xs) (i : Nat) (hi : i < n) (j : Nat) (u : Value) (x' : S57) (hj : j < 5) (hx : (xs.getD i z57).cells.set j u = x'.cells) :
    RkS w (W.setCell ⟨gb, o + i * 5 + j, none⟩ u) n₀ g c nw (.slice (some ⟨gb, o, none⟩) n cap) (xs.set i x') :=
  ⟨h.rf.set1 i hi j u x' hj hx, h.left.setrow (Kd.Q_base h.rf.row gb rfl) u⟩
set_option maxRecDepth 100000 in
set_option maxHeartbeats 2000000 in
theorem rack_walk {g : Nat} {c : Cfg} {nw : Int} {vs : Value} {xs : List S57} {its : List S54} (n b wd : Nat) (next : Int) (A0 : Option Addr) (c0 : Nat) (rs : List (Int × Int)) (w0 w : World) (hr : Kd.C k52 w0 A0 rs.length rs) (hw : Below w0.heap.size w0 w) (hI : IsRf w w0.heap.size g c nw vs xs) (hR : Rel n b its xs) (hG : Good c b nw its) (hc : CfgOk c.n c.wd c.fs c.ms) (hcn : c.n = n) (hcw : c.wd = wd) (hn : n ≤ 300) (hm : rs.length ≤ 8796093022208) :
    Calls Try.prog 13 #[.pointer (some ⟨g, 0, none⟩), .int .i64 next, .slice A0 rs.length c0] w fun e W' => e = .returned (.tuple #[]) ∧ ∃ (b' : Nat) (xs' : List S57), (b' : Int) = (ackL b nw its next rs).1 ∧ IsRf W' w0.heap.size g c nw vs xs' ∧ Rel n b' (ackL b nw its next rs).2 xs' ∧ Left w W' w0.heap.size g vs vs := by
  have HR := Aside0.mk hr
  have HW := Aside0.mk hw
  have HG := Aside0.mk hG
  have HRL := Aside0.mk hR
  have hc0 := blk_cell hI.blk 0
  have HI1 := Aside0.mk (show RkS w w w0.heap.size g c nw vs xs from ⟨hI, Left.refl _ _ _ _⟩)
  obtain ⟨A, cp, rfl, hcp, hA⟩ := hI.place
  have HA := Aside0.mk hA
  rw [HRL.out.len] at HA hcp HI1 hc0 ⊢
  obtain ⟨m, hml⟩ : ∃ m, rs.length = m := ⟨_, rfl⟩
  rw [hml] at HR hm ⊢
  have HM := Aside0.mk hml
  obtain ⟨c1, c2, c3, c4, c5, c6, c7⟩ := hc
  clear hI hA hr hw hG hR hml
  go_enter Try.func13, Try.ntmps13
  go_wp2
  clear hc0
  go_loopw [19] (fun i wr => ∃ (k : Nat) (xs' : List S57), i = .int .i64 k ∧ k ≤ n ∧ Aside0 (Rel n b (mix (marks b its next rs) its (min (k - b) its.length)) xs') ∧ Aside0 (RkS w wr w0.heap.size g c nw (.slice A n cp) xs')) (fun i _ => n - (intOf i).toNat)
  case atStart => exact ⟨0, xs, rfl, Nat.zero_le _, ⟨by rw [Nat.zero_sub, Nat.zero_min, mix_zero]; exact HRL.out⟩, HI1⟩
  case round =>
    clear HI1
    obtain ⟨k, xs', rfl, hk, HRX, HS⟩ := hrel
    obtain ⟨wo, rfl⟩ : ∃ wo : World, wo = wr := ⟨_, rfl⟩
    by_cases hlt : k < n
    · obtain ⟨gb, o, rfl⟩ := HA.out (by omega)
      go_wp2
      go_loopw [27, 7] (fun i s wr => ∃ (j : Nat) (b0 : Bool), i = .int .i64 j ∧ s = .bool b0 ∧ j ≤ m ∧ Aside0 (b0 = toldR next (rs.take j) k) ∧ Aside0 (Below wo.heap.size wo wr)) (fun i _ _ => m - (intOf i).toNat)
      case atStart => exact ⟨0, _, rfl, rfl, Nat.zero_le _, ⟨by simp [toldR, toldBy]⟩, ⟨Below.refl _ _⟩⟩
      case round =>
        obtain ⟨j, b0, rfl, rfl, hj, HB0, HBL⟩ := hrel
        by_cases hjm : j < m
        · have hts := toldBy_succ rs k j (by rw [HM.out]; exact hjm)
          obtain ⟨ad, rfl, hx0, hx1⟩ := k52_at (Kd.C_below HR.out (HW.out.trans ((HS.out.left.below).trans (HBL.out.mono (Nat.le_of_lt HS.out.rf.lt))))) j hjm
          obtain ⟨⟨r1, r2⟩, hrr⟩ : ∃ r, rs.getD j (0, 0) = r := ⟨_, rfl⟩
          rw [hrr] at hts hx0 hx1
          simp only at hts hx0 hx1
          have HTS := Aside0.mk (show toldR next (rs.take (j + 1)) k = (b0 || (decide (r1 ≤ (k : Int)) && decide ((k : Int) < r2))) by
            rw [HB0.out]; unfold toldR; rw [hts, Bool.or_assoc])
          have HB2 := Aside0.mk (HBL.out.alloc HBL.out.size (.cells #[.int .i64 r1, .int .i64 r2] 52))
          clear hts hrr
          by_cases d1 : r1 ≤ (k : Int)
          · have e1 := decide_eq_true d1
            by_cases d2 : (k : Int) < r2
            · have e2 := decide_eq_true d2
              go_wp2
              exact ⟨⟨j + 1, true, by push_cast; rfl, rfl, by omega, ⟨by rw [HTS.out]; simp [d1, d2]⟩, HB2⟩, by simp [intOf]; omega⟩
            · have e2 := decide_eq_false d2
              go_wp2
              exact ⟨⟨j + 1, b0, by push_cast; rfl, rfl, by omega, ⟨by rw [HTS.out]; simp [d2]⟩, HB2⟩, by simp [intOf]; omega⟩
          · have e1 := decide_eq_false d1
            go_wp2
            exact ⟨⟨j + 1, b0, by push_cast; rfl, rfl, by omega, ⟨by rw [HTS.out]; simp [d1]⟩, HB2⟩, by simp [intOf]; omega⟩
        · obtain rfl : j = m := by omega
          have HS2 := Aside0.mk (HS.out.ext HBL.out)
          have HT := Aside0.mk (show b0 = toldR next rs k by have h := HB0.out; rw [List.take_of_length_le (by rw [HM.out]; exact Nat.le_refl _)] at h; exact h)
          have HST := Aside0.mk (mark_step next rs k HRX.out)
          obtain ⟨⟨hx0, hx1, _, _, _⟩, hxf⟩ := k57_cells HS2.out.rf.row k hlt
          have hxf1 := hxf 1
          have hb0 := blk_cell HS2.out.rf.blk 0
          obtain ⟨⟨f0, f1, f2, f3, f4⟩, hx⟩ : ∃ x, xs'.getD k z57 = x := ⟨_, rfl⟩
          have HX := Aside0.mk hx
          rw [hx] at hx0 hx1
          simp only at hx0 hx1
          clear hx hxf
          rcases b0 with _ | _
          · go_wp2
            exact ⟨⟨k + 1, xs', by push_cast; rfl, by omega, ⟨HST.out.2 (.inl HT.out.symm)⟩, HS2⟩, by simp [intOf]; omega⟩
          · rcases f0 with _ | _
            · go_wp2
              exact ⟨⟨k + 1, xs', by push_cast; rfl, by omega, ⟨HST.out.2 (.inr (by rw [HX.out]))⟩, HS2⟩, by simp [intOf]; omega⟩
            · go_wp2
              exact ⟨⟨k + 1, _, by push_cast; rfl, by omega, ⟨HST.out.1 HT.out.symm (by rw [HX.out])⟩, ⟨HS2.out.set1 k hlt 1 (.bool true) _ (by decide) (by rw [HX.out]; rfl)⟩⟩, by simp [intOf]; omega⟩
    · have hkn : k = n := by omega
      have hfit := HRL.out.fit
      have hmk := marks_length b its next rs
      obtain ⟨b2, i2, H, hA2, hb2, hbl, hh, hHl, hdrop, hH⟩ := ack_new b nw its next rs
      have HR2 := Aside0.mk (show Rel n b2 i2 xs' from hdrop _ _ (by have h := HRX.out; rw [show min (k - b) its.length = (marks b its next rs).length by omega, mix_end (by omega)] at h; exact h))
      have HA2 := Aside0.mk hA2
      have HHD := Aside0.mk (show ∀ t, t ≤ i2.length → ((mix H i2 t).getD 0 z54).f0 = false from fun t ht => by rw [hurry_f0 hH t (by omega) 0]; exact hh)
      have HH := Aside0.mk hH
      have HHL := Aside0.mk hHl
      obtain ⟨E2, hE2⟩ : ∃ E, min n (b2 + wd) = E := ⟨_, rfl⟩
      have hwd2 : wd ≤ 64 := by omega
      have hil : i2.length ≤ E2 - b2 := by have := HG.out.win; omega
      have hbn : b2 ≤ E2 := by omega
      have hEn : E2 ≤ n := by omega
      have HIL := Aside0.mk hil
      clear hA2 hh hHl hdrop hH hmk hbl hil hkn hfit
      go_wp2_with (go_at_call 18; refine (rbase_walk b2 _ HS.out.rf (by rw [HR2.out.len]; omega) (by rw [HR2.out.len]; omega) HR2.out.lo (HR2.out.at_ (by have h := HHD.out 0 (Nat.zero_le _); rw [mix_zero] at h; exact h))).mono ?_; rintro e w2 ⟨rfl, hd2⟩; have HS2 := Aside0.mk (HS.out.ext hd2.below); clear hd2)
      go_loopw [10] (fun i wr => ∃ (k2 : Nat) (x2 : List S57), i = .int .i64 k2 ∧ b2 ≤ k2 ∧ k2 ≤ E2 ∧ Aside0 (Rel n b2 (mix H i2 (min (k2 - b2) i2.length)) x2) ∧ Aside0 (RkS w wr w0.heap.size g c nw (.slice A n cp) x2)) (fun i _ => E2 - (intOf i).toNat)
      case atStart => exact ⟨b2, xs', rfl, Nat.le_refl _, hbn, ⟨by rw [Nat.sub_self, Nat.zero_min, mix_zero]; exact HR2.out⟩, HS2⟩
      case round =>
        clear HS2 HS HRX
        obtain ⟨k2, x2, rfl, hk2, hkE, HRX, HS⟩ := hrel
        obtain ⟨wq, rfl⟩ : ∃ wq : World, wq = wr := ⟨_, rfl⟩
        have HEND := Aside0.mk (show ∀ W, IsRf W w0.heap.size g c nw (.slice A n cp) x2 → _ from fun W h => rend_walk b2 wd W h (by rw [HRX.out.len]; omega) (by rw [HRX.out.len]; omega) HRX.out.lo (HRX.out.at_ (HHD.out _ (Nat.min_le_right _ _))) hcw hwd2 (E := E2) (by rw [HRX.out.len]; exact hE2))
        by_cases hlt2 : k2 < E2
        · obtain ⟨gb, o, rfl⟩ := HA.out (by omega)
          go_wp2_with (go_at_call 23; refine (HEND.out _ HS.out.rf).mono ?_; rintro e w3 ⟨rfl, hd3⟩; have HS3 := Aside0.mk (HS.out.ext hd3.below); clear hd3)
          go_loopw [12, 11] (fun i s wr => ∃ (q a : Nat), i = .int .i64 q ∧ s = .int .i64 a ∧ k2 + 1 ≤ q ∧ q ≤ E2 ∧ a ≤ q ∧ Aside0 (a + ackedFrom i2 (q - b2) = ackedFrom i2 (k2 - b2 + 1)) ∧ Aside0 (RkS w wr w0.heap.size g c nw (.slice (some ⟨gb, o, none⟩) n cp) x2)) (fun i _ _ => E2 - (intOf i).toNat)
          case atStart => exact ⟨k2 + 1, 0, by push_cast; rfl, rfl, Nat.le_refl _, by omega, Nat.zero_le _, ⟨by rw [Nat.zero_add, show k2 + 1 - b2 = k2 - b2 + 1 by omega]⟩, HS3⟩
          case round =>
            clear HS3 HS
            obtain ⟨q, a, rfl, rfl, hq1, hq2, haq, HQ, HSQ⟩ := hrel
            obtain ⟨wz, rfl⟩ : ∃ wz : World, wz = wr := ⟨_, rfl⟩
            by_cases hqe : q < E2
            · have hst := ackedFrom_step i2 (q - b2)
              have hf1 := HRX.out.f1 (q - b2)
              rw [hurry_f0 HH.out _ (by rw [HHL.out]; exact Nat.min_le_right _ _), show b2 + (q - b2) = q by omega] at hf1
              obtain ⟨f, hf⟩ : ∃ f, (i2.getD (q - b2) z54).f0 = f := ⟨_, rfl⟩
              rw [hf] at hst hf1
              rw [show q - b2 + 1 = q + 1 - b2 by omega] at hst
              have HF := Aside0.mk hf1
              have hq3 := HQ.out
              rw [hst] at hq3
              have HQ3 := Aside0.mk hq3
              clear hst hf1 hf hq3
              rcases f with _ | _
              · go_wp2_with (go_at_call 23; refine (HEND.out _ HSQ.out.rf).mono ?_; rintro e w5 ⟨rfl, hd5⟩; have HS5 := Aside0.mk (HSQ.out.ext hd5.below); clear hd5; obtain ⟨⟨hx0, hx1, hx2, hx3, hx4⟩, hxf⟩ := k57_cells HS5.out.rf.row q (by omega); rw [HF.out] at hx1; have hb0 := blk_cell HS5.out.rf.blk 0; clear hxf hx0 hx2 hx3 hx4)
                exact ⟨⟨q + 1, a, by push_cast; rfl, rfl, by omega, by omega, by omega, ⟨by have h := HQ3.out; simpa using h⟩, HS5⟩, by simp [intOf]; omega⟩
              · go_wp2_with (go_at_call 23; refine (HEND.out _ HSQ.out.rf).mono ?_; rintro e w5 ⟨rfl, hd5⟩; have HS5 := Aside0.mk (HSQ.out.ext hd5.below); clear hd5; obtain ⟨⟨hx0, hx1, hx2, hx3, hx4⟩, hxf⟩ := k57_cells HS5.out.rf.row q (by omega); rw [HF.out] at hx1; have hb0 := blk_cell HS5.out.rf.blk 0; clear hxf hx0 hx2 hx3 hx4)
                exact ⟨⟨q + 1, a + 1, by push_cast; rfl, by push_cast; rfl, by omega, by omega, by omega, ⟨by have h := HQ3.out; simp only [if_pos] at h; rw [← h, Nat.add_assoc]⟩, HS5⟩, by simp [intOf]; omega⟩
            · have hqE : q = E2 := by omega
              have ha := HQ.out
              rw [hqE, ackedFrom_end i2 _ HIL.out, Nat.add_zero] at ha
              have HAA := Aside0.mk ha
              obtain ⟨st1, st2, st3, st4⟩ := hurry_step HHL.out HH.out (k2 - b2) HRX.out
              rw [show b2 + (k2 - b2) = k2 by omega] at st1 st2 st3
              rw [show k2 - b2 + 1 = k2 + 1 - b2 by omega] at st2 st3 st4
              have HT3 := Aside0.mk st3
              have HT4 := Aside0.mk st4
              clear ha hqE
              by_cases ht : k2 - b2 < i2.length
              · have hX := st1 ht
                obtain ⟨⟨f0, f1, f2, f3⟩, hx⟩ : ∃ x, i2.getD (k2 - b2) z54 = x := ⟨_, rfl⟩
                rw [hx] at hX HT3 HT4
                have HX := Aside0.mk hX
                have HTT := Aside0.mk ht
                clear st1 st2 st3 st4 hX hx ht
                rcases f0 with _ | _
                · rcases f1 with _ | _
                  · by_cases h3 : 3 ≤ a
                    · have e1 : decide ((3 : Int) ≤ (a : Int)) = true := decide_eq_true (by omega)
                      have e2 : decide (3 ≤ a) = true := decide_eq_true h3
                      have HT5 := Aside0.mk (HT3.out HTT.out rfl rfl (by rw [← show a = ackedFrom i2 (k2 + 1 - b2) by rw [HAA.out, show k2 - b2 + 1 = k2 + 1 - b2 by omega]]; exact h3))
                      go_wp2_with (go_at_call 23; refine (HEND.out _ HSQ.out.rf).mono ?_; rintro e w5 ⟨rfl, hd5⟩; have HS5 := Aside0.mk (HSQ.out.ext hd5.below); clear hd5; obtain ⟨⟨hx0, hx1, hx2, hx3, hx4⟩, hxf⟩ := k57_cells HS5.out.rf.row k2 (by omega); rw [HX.out] at hx0 hx1 hx2 hx3 hx4; simp only [upS, z57] at hx0 hx1 hx2 hx3 hx4; have hb0 := blk_cell HS5.out.rf.blk 0; have hb4 := blk_cell HS5.out.rf.blk 4; have hxf2 := hxf 2; have hxf4 := hxf 4; have hne := HS5.out.rf.ne; have hne2 := Ne.symm hne; clear hxf)
                      have HE2 := Aside0.mk (show ∀ x : S57, (x2.set k2 x).getD k2 z57 = x from fun x => by rw [getD_set_R, if_pos ⟨rfl, by rw [HRX.out.len]; omega⟩])
                      have HS6 := (HS5.out.set1 k2 (by omega) 2 (.bool true) ⟨true, false, true, f2, f3⟩ (by decide) (by rw [HX.out]; rfl)).set1 k2 (by omega) 4 (.int .i64 nw) ⟨true, false, true, f2, nw⟩ (by decide) (by rw [HE2.out]; rfl)
                      rw [List.set_set] at HS6
                      exact ⟨⟨k2 + 1, _, by push_cast; rfl, by omega, by omega, HT5, ⟨HS6⟩⟩, by simp [intOf]; omega⟩
                    · have e1 : decide ((3 : Int) ≤ (a : Int)) = false := decide_eq_false (by omega)
                      have e2 : decide (3 ≤ a) = false := decide_eq_false h3
                      go_wp2_with (go_at_call 23; refine (HEND.out _ HSQ.out.rf).mono ?_; rintro e w5 ⟨rfl, hd5⟩; have HS5 := Aside0.mk (HSQ.out.ext hd5.below); clear hd5; obtain ⟨⟨hx0, hx1, hx2, hx3, hx4⟩, hxf⟩ := k57_cells HS5.out.rf.row k2 (by omega); rw [HX.out] at hx0 hx1 hx2 hx3 hx4; simp only [upS, z57] at hx0 hx1 hx2 hx3 hx4; have hb0 := blk_cell HS5.out.rf.blk 0; have hb4 := blk_cell HS5.out.rf.blk 4; have hxf2 := hxf 2; have hxf4 := hxf 4; have hne := HS5.out.rf.ne; have hne2 := Ne.symm hne; clear hxf)
                      exact ⟨⟨k2 + 1, x2, by push_cast; rfl, by omega, by omega, ⟨HT4.out HTT.out (by intro h; apply h3; rw [HAA.out, show k2 - b2 + 1 = k2 + 1 - b2 by omega]; exact h.2.2)⟩, HS5⟩, by simp [intOf]; omega⟩
                  · go_wp2_with (go_at_call 23; refine (HEND.out _ HSQ.out.rf).mono ?_; rintro e w5 ⟨rfl, hd5⟩; have HS5 := Aside0.mk (HSQ.out.ext hd5.below); clear hd5; obtain ⟨⟨hx0, hx1, hx2, hx3, hx4⟩, hxf⟩ := k57_cells HS5.out.rf.row k2 (by omega); rw [HX.out] at hx0 hx1 hx2 hx3 hx4; simp only [upS, z57] at hx0 hx1 hx2 hx3 hx4; have hb0 := blk_cell HS5.out.rf.blk 0; have hb4 := blk_cell HS5.out.rf.blk 4; have hxf2 := hxf 2; have hxf4 := hxf 4; have hne := HS5.out.rf.ne; have hne2 := Ne.symm hne; clear hxf)
                    exact ⟨⟨k2 + 1, x2, by push_cast; rfl, by omega, by omega, ⟨HT4.out HTT.out (by simp)⟩, HS5⟩, by simp [intOf]; omega⟩
                · go_wp2_with (go_at_call 23; refine (HEND.out _ HSQ.out.rf).mono ?_; rintro e w5 ⟨rfl, hd5⟩; have HS5 := Aside0.mk (HSQ.out.ext hd5.below); clear hd5; obtain ⟨⟨hx0, hx1, hx2, hx3, hx4⟩, hxf⟩ := k57_cells HS5.out.rf.row k2 (by omega); rw [HX.out] at hx0 hx1 hx2 hx3 hx4; simp only [upS, z57] at hx0 hx1 hx2 hx3 hx4; have hb0 := blk_cell HS5.out.rf.blk 0; have hb4 := blk_cell HS5.out.rf.blk 4; have hxf2 := hxf 2; have hxf4 := hxf 4; have hne := HS5.out.rf.ne; have hne2 := Ne.symm hne; clear hxf)
                  exact ⟨⟨k2 + 1, x2, by push_cast; rfl, by omega, by omega, ⟨HT4.out HTT.out (by simp)⟩, HS5⟩, by simp [intOf]; omega⟩
              · have HX := Aside0.mk (st2 ht).1
                have HRZ := Aside0.mk (st2 ht).2
                clear st1 st2 st3 st4 ht
                go_wp2_with (go_at_call 23; refine (HEND.out _ HSQ.out.rf).mono ?_; rintro e w5 ⟨rfl, hd5⟩; have HS5 := Aside0.mk (HSQ.out.ext hd5.below); clear hd5; obtain ⟨⟨hx0, hx1, hx2, hx3, hx4⟩, hxf⟩ := k57_cells HS5.out.rf.row k2 (by omega); rw [HX.out] at hx0 hx1 hx2 hx3 hx4; simp only [upS, z57] at hx0 hx1 hx2 hx3 hx4; have hb0 := blk_cell HS5.out.rf.blk 0; have hb4 := blk_cell HS5.out.rf.blk 4; have hxf2 := hxf 2; have hxf4 := hxf 4; have hne := HS5.out.rf.ne; have hne2 := Ne.symm hne; clear hxf)
                exact ⟨⟨k2 + 1, x2, by push_cast; rfl, by omega, by omega, HRZ, HS5⟩, by simp [intOf]; omega⟩
        · go_wp2_with (go_at_call 23; refine (HEND.out _ HS.out.rf).mono ?_; rintro e w3 ⟨rfl, hd3⟩; have HS3 := Aside0.mk (HS.out.ext hd3.below); clear hd3)
          go_end0
          refine ⟨rfl, b2, x2, by rw [HA2.out], HS3.out.rf, ?_, HS3.out.left⟩
          rw [HA2.out]
          have h := HRX.out
          rw [show min (k2 - b2) i2.length = H.length by have := HIL.out; rw [HHL.out]; omega, mix_end (by rw [HHL.out]; exact Nat.le_refl _)] at h
          exact h
end Go.Proofs.Ytfmggodmhklfoaa.Lib
