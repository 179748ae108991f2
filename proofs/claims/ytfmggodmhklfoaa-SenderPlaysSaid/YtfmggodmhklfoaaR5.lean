/- the document's sender: Tick: walked by hand. -/
import Derived.Test.YtfmggodmhklfoaaR4
namespace Go.Proofs.Ytfmggodmhklfoaa.Lib
open Go.RowKit Go.Shelf Go.Proofs.YtfmggodmhklfoaaW.PrintWords Go.Proofs.YtfmggodmhklfoaaW.PrintLast Go.Proofs.YtfmggodmhklfoaaW.PrintMore
set_option linter.unusedVariables false
set_option linter.unusedSimpArgs false
attribute [local go_sem] max2_int min2_int max_two min_two
theorem RtS.drew {w W : World} {n₀ g : Nat} {c : Cfg} {nw : Int} {vs vo : Value} {xs : List S57} {outs : List Int} (h : RtS w W n₀ g c nw vs xs vo outs) : RtS w W.drew n₀ g c nw vs xs vo outs :=
  ⟨h.rf.ext (below_drew (Below.refl _ _)), Kd.R_below h.out (below_drew (Below.refl _ _)), h.left.trans ⟨keep_drew (KeepBut.refl _ _ _), below_drew (Below.refl _ _), .inl rfl⟩⟩
/-- what the document's Tick leaves -/
def RtPost (w : World) (n₀ g : Nat) (c : Cfg) (n b : Nat) (nw : Int) (vs : Value) (P : List S54 × List Int) (e : Ending) (W' : World) : Prop :=
  ∃ vo xs', e = .returned vo ∧ IsRf W' n₀ g c (nw + 1) vs xs' ∧ Rel n b P.1 xs' ∧ Kd.R (Kd.int .i64) 3 W' w.heap.size (fun _ => True) vo P.2 ∧ Left w W' n₀ g vs vs
set_option maxRecDepth 100000 in
set_option maxHeartbeats 2000000 in
theorem rtick_walk {n₀ g : Nat} {c : Cfg} {nw : Int} {vs : Value} {xs : List S57} {its : List S54} (n b wd : Nat) (w : World) (hI : IsRf w n₀ g c nw vs xs) (hR : Rel n b its xs) (hG : Good c b nw its) (hc : CfgOk c.n c.wd c.fs c.ms) (hcn : c.n = n) (hcw : c.wd = wd) (hn : n ≤ 300) (hnw : nw ≤ 1000000) (hn0 : n₀ ≤ w.heap.size) :
    Calls Try.prog 16 #[.pointer (some ⟨g, 0, none⟩)] w fun e W' => RtPost w n₀ g c n b nw vs (tickL c b nw its) e W' := by
  have hn1 := hG.n0
  have hG2 := hG.tick hc
  have hwl := hG.winL
  have hpl := tick_length c b nw its
  obtain ⟨c1, c2, c3, c4, c5, c6, c7⟩ := hc
  have hwd2 : wd ≤ 64 := by omega
  obtain ⟨E, hE⟩ : ∃ E, min n (b + wd) = E := ⟨_, rfl⟩
  have hEw : b + winL c b its = E := by
    have h1 := hwl.1
    have h2 := hwl.2.1
    rw [hcw, hcn] at h1
    unfold mn at h1
    split at h1 <;> omega
  have HIT := Aside0.mk (tick_item c b nw its)
  have HOU := Aside0.mk (show (tickL c b nw its).2 = outsR b (nw + 1) its (winL c b its) from tick_outs c b nw its)
  obtain ⟨P, hP⟩ : ∃ P, tickL c b nw its = P := ⟨_, rfl⟩
  rw [hP] at hG2 hpl HIT HOU ⊢
  have hIL : its.length ≤ P.1.length := by omega
  have HHD := Aside0.mk (show ∀ t, t ≤ P.1.length → ((mix P.1 its t).getD 0 z54).f0 = false from fun t ht => mix_head ht hG2.head hG.head)
  have HG := Aside0.mk hG
  have HCF := Aside0.mk (show c.ms ≤ 65536 ∧ 0 ≤ c.ms ∧ 0 ≤ c.fs ∧ c.fs ≤ 65536 by omega)
  have HRL := Aside0.mk hR
  have hbn : b ≤ E := by omega
  have hEn : E ≤ n := by omega
  have HPL := Aside0.mk (show P.1.length = E - b by omega)
  have HWL := Aside0.mk (show winL c b its = E - b by omega)
  have hil : its.length ≤ E - b := by omega
  have hpl2 : ∀ t, b + t ≤ E → t ≤ P.1.length := fun t ht => by omega
  have HPT := Aside0.mk hpl2
  have HIL2 := Aside0.mk hIL
  clear hP hG2 hwl hpl hEw hIL hG hR hpl2
  have hc4 := blk_cell hI.blk 4
  have hf4 := blk_frozen hI.blk 4
  have HI1 := Aside0.mk (show RtS w (w.setCell ⟨g, 4, none⟩ (.int .i64 (nw + 1))) n₀ g c (nw + 1) vs xs (.slice none 0 0) [] from ⟨hI.put4 (nw + 1), Kd.R_nil _ _ _ _ _, (Left.refl w n₀ g vs).setblk hI.ge 4 _ _ rfl⟩)
  obtain ⟨A, cp, rfl, hcp, hA⟩ := hI.place
  have HA := Aside0.mk hA
  rw [HRL.out.len] at HA hcp HI1
  clear hI hA
  go_enter Try.func16, Try.ntmps16
  go_wp2_with (go_at_call 18; refine (rbase_walk b _ HI1.out.rf (by rw [HRL.out.len]; omega) (by rw [HRL.out.len]; omega) HRL.out.lo (HRL.out.at_ HG.out.head)).mono ?_; rintro e w2 ⟨rfl, ⟨nd2, rfl⟩⟩)
  clear hc4 hf4
  go_loopw [4, 3] (fun i s wr => ∃ (k t : Nat) (vo : Value) (xs' : List S57), i = .int .i64 k ∧ s = vo ∧ k ≤ E ∧ Aside0 (k = b + t) ∧ Aside0 (Rel n b (mix P.1 its t) xs') ∧ Aside0 (RtS w wr n₀ g c (nw + 1) (.slice A n cp) xs' vo (outsR b (nw + 1) its t))) (fun i _ _ => E - (intOf i).toNat)
  case atStart => exact ⟨b, 0, _, xs, rfl, rfl, hbn, ⟨rfl⟩, ⟨by rw [mix_zero]; exact HRL.out⟩, ⟨HI1.out.drewN _⟩⟩
  case round =>
    clear HI1
    obtain ⟨k, t, vo, xs', rfl, rfl, hk, HK, HRX, HS⟩ := hrel
    have hlx := HRX.out.len
    have HLX := Aside0.mk hlx
    clear hlx
    have HEND := Aside0.mk (rend_walk b wd wr HS.out.rf (by rw [HLX.out]; omega) (by rw [HLX.out]; omega) HRX.out.lo (HRX.out.at_ (HHD.out t (HPT.out t (by rw [← HK.out]; exact hk)))) hcw hwd2 (E := E) (by rw [HLX.out]; exact hE))
    obtain ⟨wo, rfl⟩ : ∃ wo : World, wo = wr := ⟨_, rfl⟩
    by_cases hlt : k < E
    · have HTL := Aside0.mk (show t < P.1.length by have h1 := HPL.out; have h2 := HK.out; omega)
      obtain ⟨gb, o, rfl⟩ := HA.out (by omega)
      have hkn : k < n := by omega
      have hms := HCF.out
      by_cases hti : t < its.length
      · obtain ⟨⟨a0, a1, a2, a3⟩, hx⟩ : ∃ x, its.getD t z54 = x := ⟨_, rfl⟩
        have hit := HIT.out t
        rw [if_pos hti, hx] at hit
        have hmid : xs'.getD k z57 = upS ⟨a0, a1, a2, a3⟩ := by
          rw [HK.out, HRX.out.mid t (by rw [mix_length HIL2.out (Nat.le_of_lt HTL.out)]; omega), mix_getD (Nat.le_of_lt HTL.out), if_neg (Nat.lt_irrefl t), hx]
        have hgap := HG.out.gap t
        rw [hx] at hgap
        simp only at hgap
        have HX := Aside0.mk hmid
        have HSN := Aside0.mk (show sentNow (nw + 1) its t = (!a0 && !decide (nw + 1 < a3)) by
          unfold sentNow
          rw [hx, decide_eq_false (show ¬ its.length ≤ t by omega), Bool.false_or])
        have hskip : sentNow (nw + 1) its t = false → Rel n b (mix P.1 its (t + 1)) xs' ∧ outsR b (nw + 1) its (t + 1) = outsR b (nw + 1) its t := fun h => by
          constructor
          · rw [mix_same HIL2.out hti (by rw [hit, h, hx]; rfl)]; exact HRX.out
          · rw [outsR_succ, h]; rfl
        have HSK := Aside0.mk hskip
        have HIT2 := Aside0.mk hit
        have HTI := Aside0.mk hti
        clear hskip hit hmid hx hti
        rcases a0 with _ | _
        · by_cases hdue : nw + 1 < a3
          · have hd := decide_eq_true hdue
            go_wp2_with (go_at_call 23; refine HEND.out.mono ?_; rintro e w2 ⟨rfl, ⟨nd3, e3⟩⟩; have HS2 := Aside0.mk (HS.out.drewN nd3); rw [← e3] at HS2; clear e3; obtain ⟨⟨hx0, hx1, hx2, hx3, hx4⟩, hxf⟩ := k57_cells HS2.out.rf.row k hkn; rw [HX.out] at hx0 hx1 hx2 hx3 hx4; simp only [upS] at hx0 hx1 hx2 hx3 hx4; have hb0 := blk_cell HS2.out.rf.blk 0; have hb4 := blk_cell HS2.out.rf.blk 4; clear hxf)
            go_quiet (fail)
            go_wp2
            have h := HSK.out (by rw [HSN.out]; simp [hd])
            exact ⟨⟨k + 1, t + 1, _, xs', by push_cast; rfl, rfl, by omega, ⟨by have := HK.out; omega⟩, ⟨h.1⟩, ⟨by rw [h.2]; exact HS2.out.drewN _⟩⟩, by simp [intOf]; omega⟩
          · have hd := decide_eq_false hdue
            go_wp2_with (go_at_call 23; refine HEND.out.mono ?_; rintro e w2 ⟨rfl, ⟨nd3, e3⟩⟩; have HS2 := Aside0.mk (HS.out.drewN nd3); rw [← e3] at HS2; clear e3; obtain ⟨⟨hx0, hx1, hx2, hx3, hx4⟩, hxf⟩ := k57_cells HS2.out.rf.row k hkn; rw [HX.out] at hx0 hx1 hx2 hx3 hx4; simp only [upS] at hx0 hx1 hx2 hx3 hx4; have hb0 := blk_cell HS2.out.rf.blk 0; have hb4 := blk_cell HS2.out.rf.blk 4; have hb3 := blk_cell HS2.out.rf.blk 3; have hxf3 := hxf 3; clear hxf)
            go_quiet (fail)
            go_wp2
            have HGV := Aside0.mk (show (if c.ms < IntKind.i64.wrap (2 * a2) then c.ms else IntKind.i64.wrap (2 * a2)) = mn (2 * a2) c.ms by rw [show IntKind.i64.wrap (2 * a2) = 2 * a2 from (i64_w _).trans (wrap64_in (by omega) (by omega))]; rfl)
            have HGB := Aside0.mk (show 0 ≤ mn (2 * a2) c.ms ∧ mn (2 * a2) c.ms ≤ 65536 by unfold mn; split <;> omega)
            obtain ⟨gv, hgv⟩ : ∃ gv, mn (2 * a2) c.ms = gv := ⟨_, rfl⟩
            have HGD := Aside0.mk hgv
            rw [hgv] at HGV HGB
            have HNG := Aside0.mk (show IntKind.i64.wrap (nw + 1 + gv) = nw + 1 + gv from (i64_w _).trans (wrap64_in (by have := HGB.out; omega) (by have := HGB.out; omega)))
            have HOL := Aside0.mk (show ((outsR b (nw + 1) its t).length + 1) * 8 ≤ 140737488355328 by have h1 := outsR_length b (nw + 1) its t; have h2 := HK.out; omega)
            have HSND := Aside0.mk (show Rel n b (mix P.1 its (t + 1)) (xs'.set k ⟨true, false, a1, gv, nw + 1 + gv⟩) ∧ outsR b (nw + 1) its (t + 1) = outsR b (nw + 1) its t ++ [(k : Int)] from by
              have hs : sentNow (nw + 1) its t = true := by rw [HSN.out]; simp [hd]
              have hit := HIT2.out
              rw [if_pos hs] at hit
              constructor
              · have h := HRX.out.set t (by rw [mix_length HIL2.out (Nat.le_of_lt HTL.out)]; have := HTI.out; omega) (P.1.getD t z54)
                rw [mix_set HIL2.out HTI.out, hit, ← HK.out] at h
                simp only [sendS, upS, hgv] at h
                exact h
              · rw [outsR_succ, if_pos hs, HK.out]; push_cast; rfl)
            clear hgv
            go_region_law (fail)
            all_goals
              rw [HGV.out]
              generalize hw3 : World.setCell (w2.drewN (nq + 1)) _ _ = w3
              have HS3 := Aside0.mk ((HS2.out.drewN (nq + 1)).set1 k hkn 3 (.int .i64 gv) ⟨true, false, a1, gv, a3⟩ (by decide) (by rw [HX.out]; rfl))
              rw [hw3] at HS3
              clear hw3 hx0 hx1 hx2 hx3 hx4 hb0 hb4 hb3 hxf3
              have HE3 := Aside0.mk (show (xs'.set k ⟨true, false, a1, gv, a3⟩).getD k z57 = ⟨true, false, a1, gv, a3⟩ by rw [getD_set_R, if_pos ⟨rfl, by rw [HLX.out]; exact hkn⟩])
              obtain ⟨⟨hx0, hx1, hx2, hx3, hx4⟩, hxf⟩ := k57_cells HS3.out.rf.row k hkn
              rw [HE3.out] at hx0 hx1 hx2 hx3 hx4
              have hxf0 := hxf 0
              rw [Nat.add_zero] at hxf0
              clear hxf
              have hgb := HGB.out
              go_wp2
              generalize hw4 : World.setCell w3 _ _ = w4
              have HS4 := Aside0.mk (HS3.out.set1 k hkn 0 (.bool true) ⟨true, false, a1, gv, a3⟩ (by decide) (by rw [HE3.out]; rfl))
              rw [Nat.add_zero, hw4, List.set_set] at HS4
              clear hw4 hx0 hx1 hx2 hx3 hx4 hxf0
              obtain ⟨⟨hx0, hx1, hx2, hx3, hx4⟩, hxf⟩ := k57_cells HS4.out.rf.row k hkn
              rw [HE3.out] at hx0 hx1 hx2 hx3 hx4
              have hxf4 := hxf 4
              have hb4 := blk_cell HS4.out.rf.blk 4
              clear hxf
              go_region_law (fail)
              all_goals
                rw [HNG.out]
                generalize hw5 : World.drew (World.setCell w4 _ _) = w5
                have HS5 := Aside0.mk (HS4.out.set1 k hkn 4 (.int .i64 (nw + 1 + gv)) ⟨true, false, a1, gv, nw + 1 + gv⟩ (by decide) (by rw [HE3.out]; rfl)).drew
                rw [hw5, List.set_set] at HS5
                clear hw5 hx0 hx1 hx2 hx3 hx4 hxf4 hb4
                go_wp2_with ((with_reducible refine gate_builtin (b := .append) (xs := #[.tmp 88, .tmp 90]) rfl ?_); at_builtin; refine Kd.R_append (Kd.int .i64) (w0 := w5) (W := w5) w.heap.size rfl (.tmp 88) (.tmp 90) 37 3 (.int .i64 0) 8 rfl Try.underlying37 info3 rfl (by decide) (by omega) u3 (outsR b (nw + 1) its t) (k : Int) [.int .i64 (k : Int)] (fun _ => True) (fun _ => False) rfl rfl rfl (fun _ hk => hk.elim) (fun _ _ => trivial) HS5.out.out (Below.refl _ _) HS5.out.left.keep.1 HOL.out ?_; intro v6 w6 ho6 hb6 hg6 hat6; have HS6 := Aside0.mk (HS5.out.app ho6 hg6 hn0); clear ho6 hb6 hg6 hat6)
                exact ⟨⟨k + 1, t + 1, _, _, by push_cast; rfl, rfl, by omega, ⟨by have := HK.out; omega⟩, ⟨HSND.out.1⟩, ⟨by rw [HSND.out.2]; exact HS6.out⟩⟩, by simp [intOf]; omega⟩
        · go_wp2_with (go_at_call 23; refine HEND.out.mono ?_; rintro e w2 ⟨rfl, ⟨nd3, e3⟩⟩; have HS2 := Aside0.mk (HS.out.drewN nd3); rw [← e3] at HS2; clear e3; obtain ⟨⟨hx0, hx1, hx2, hx3, hx4⟩, hxf⟩ := k57_cells HS2.out.rf.row k hkn; rw [HX.out] at hx0 hx1 hx2 hx3 hx4; simp only [upS] at hx0 hx1 hx2 hx3 hx4; have hb0 := blk_cell HS2.out.rf.blk 0; clear hxf)
          go_quiet (fail)
          go_wp2
          have h := HSK.out (by rw [HSN.out]; rfl)
          exact ⟨⟨k + 1, t + 1, _, xs', by push_cast; rfl, rfl, by omega, ⟨by have := HK.out; omega⟩, ⟨h.1⟩, ⟨by rw [h.2]; exact HS2.out.drewN _⟩⟩, by simp [intOf]; omega⟩
      · have hit := HIT.out t
        rw [if_neg hti, if_pos (by rw [HWL.out]; have := HK.out; omega)] at hit
        have hmid : xs'.getD k z57 = z57 := by
          rw [HK.out]
          exact HRX.out.high _ (by rw [mix_length HIL2.out (Nat.le_of_lt HTL.out)]; omega)
        have HX := Aside0.mk hmid
        have hfs := hms.2.2
        have HNG := Aside0.mk (show IntKind.i64.wrap (nw + 1 + c.fs) = nw + 1 + c.fs from (i64_w _).trans (wrap64_in (by omega) (by omega)))
        have HOL := Aside0.mk (show ((outsR b (nw + 1) its t).length + 1) * 8 ≤ 140737488355328 by have h1 := outsR_length b (nw + 1) its t; have h2 := HK.out; omega)
        have HSND := Aside0.mk (show Rel n b (mix P.1 its (t + 1)) (xs'.set k ⟨true, false, false, c.fs, nw + 1 + c.fs⟩) ∧ outsR b (nw + 1) its (t + 1) = outsR b (nw + 1) its t ++ [(k : Int)] from by
          have hs : sentNow (nw + 1) its t = true := by
            unfold sentNow
            rw [decide_eq_true (show its.length ≤ t by omega), Bool.true_or]
          have hml : (mix P.1 its t).length = t := by rw [mix_length HIL2.out (Nat.le_of_lt HTL.out)]; omega
          constructor
          · have h := HRX.out.snoc (by rw [hml]; have := HK.out; omega) (P.1.getD t z54)
            rw [mix_snoc (by omega) HTL.out, hit, hml, ← HK.out] at h
            exact h
          · rw [outsR_succ, if_pos hs, HK.out]; push_cast; rfl)
        clear hit hmid hti
        go_wp2_with (go_at_call 23; refine HEND.out.mono ?_; rintro e w2 ⟨rfl, ⟨nd3, e3⟩⟩; have HS2 := Aside0.mk (HS.out.drewN nd3); rw [← e3] at HS2; clear e3; obtain ⟨⟨hx0, hx1, hx2, hx3, hx4⟩, hxf⟩ := k57_cells HS2.out.rf.row k hkn; rw [HX.out] at hx0 hx1 hx2 hx3 hx4; simp only [z57] at hx0 hx1 hx2 hx3 hx4; have hb0 := blk_cell HS2.out.rf.blk 0; have hb4 := blk_cell HS2.out.rf.blk 4; have hb2 := blk_cell HS2.out.rf.blk 2; have hxf3 := hxf 3; have hxf0 := hxf 0; rw [Nat.add_zero] at hxf0; clear hxf)
        go_quiet (fail)
        go_wp2
        generalize hw4 : World.setCell (World.setCell (w2.drewN nq) _ _) _ _ = w4
        have HE2 := Aside0.mk (show ∀ x : S57, (xs'.set k x).getD k z57 = x from fun x => by rw [getD_set_R, if_pos ⟨rfl, by rw [HLX.out]; exact hkn⟩])
        have HS4 := Aside0.mk (((HS2.out.drewN nq).set1 k hkn 3 (.int .i64 c.fs) ⟨false, false, false, c.fs, 0⟩ (by decide) (by rw [HX.out]; rfl)).set1 k hkn 0 (.bool true) ⟨true, false, false, c.fs, 0⟩ (by decide) (by rw [HE2.out]; rfl))
        simp only [Nat.add_zero] at HS4
        rw [hw4, List.set_set] at HS4
        clear hw4 hx0 hx1 hx2 hx3 hx4 hb0 hb4 hb2 hxf3 hxf0
        obtain ⟨⟨hx0, hx1, hx2, hx3, hx4⟩, hxf⟩ := k57_cells HS4.out.rf.row k hkn
        rw [HE2.out] at hx0 hx1 hx2 hx3 hx4
        have hxf4 := hxf 4
        have hb4 := blk_cell HS4.out.rf.blk 4
        clear hxf
        go_region_law (fail)
        all_goals
          rw [HNG.out]
          generalize hw5 : World.drew (World.setCell w4 _ _) = w5
          have HS5 := Aside0.mk (HS4.out.set1 k hkn 4 (.int .i64 (nw + 1 + c.fs)) ⟨true, false, false, c.fs, nw + 1 + c.fs⟩ (by decide) (by rw [HE2.out]; rfl)).drew
          rw [hw5, List.set_set] at HS5
          clear hw5 hx0 hx1 hx2 hx3 hx4 hxf4 hb4
          go_wp2_with ((with_reducible refine gate_builtin (b := .append) (xs := #[.tmp 88, .tmp 90]) rfl ?_); at_builtin; refine Kd.R_append (Kd.int .i64) (w0 := w5) (W := w5) w.heap.size rfl (.tmp 88) (.tmp 90) 37 3 (.int .i64 0) 8 rfl Try.underlying37 info3 rfl (by decide) (by omega) u3 (outsR b (nw + 1) its t) (k : Int) [.int .i64 (k : Int)] (fun _ => True) (fun _ => False) rfl rfl rfl (fun _ hk => hk.elim) (fun _ _ => trivial) HS5.out.out (Below.refl _ _) HS5.out.left.keep.1 HOL.out ?_; intro v6 w6 ho6 hb6 hg6 hat6; have HS6 := Aside0.mk (HS5.out.app ho6 hg6 hn0); clear ho6 hb6 hg6 hat6)
          exact ⟨⟨k + 1, t + 1, _, _, by push_cast; rfl, rfl, by omega, ⟨by have := HK.out; omega⟩, ⟨HSND.out.1⟩, ⟨by rw [HSND.out.2]; exact HS6.out⟩⟩, by simp [intOf]; omega⟩
    · obtain rfl : k = E := by omega
      have ht : t = P.1.length := by have h1 := HPL.out; have h2 := HK.out; omega
      have HP1 := Aside0.mk (show Rel n b P.1 xs' by have h := HRX.out; rw [ht, mix_end HIL2.out] at h; exact h)
      have HP2 := Aside0.mk (show outsR b (nw + 1) its t = P.2 by rw [HOU.out, HWL.out, ht, HPL.out])
      clear ht
      go_wp2_with (go_at_call 23; refine HEND.out.mono ?_; rintro e w2 ⟨rfl, ⟨nd3, rfl⟩⟩)
      go_ret
      have h := HS.out.drewN nd3
      rw [HP2.out] at h
      rw [HRL.out.len]
      exact ⟨_, xs', rfl, h.rf, HP1.out, h.out, h.left⟩
end Go.Proofs.Ytfmggodmhklfoaa.Lib
