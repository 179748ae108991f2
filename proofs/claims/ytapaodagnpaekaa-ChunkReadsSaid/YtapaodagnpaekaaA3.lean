/- ChunkReads: the row. -/
import Derived.Test.YtapaodagnpaekaaGd
import Derived.Test.YtapaodagnpaekaaVh
import Derived.BigQuiet
namespace Go.Proofs.Ytapaodagnpaekaa.Lib
open Go.RowKit Go.Proofs.YtapaodagnpaekaaW.PrintWords Go.Proofs.YtapaodagnpaekaaW.PrintLast Go.Proofs.YtapaodagnpaekaaW.PrintMore
set_option linter.unusedVariables false
set_option linter.unusedSimpArgs false
set_option maxHeartbeats 4000000 in
set_option maxRecDepth 100000 in
theorem reads_row (A0 : Option Addr) (c0 : Nat) (L : List (List Int)) (w : World) (hr0 : Kd.C (Kd.slice 5 (Kd.int .u8)) w A0 L.length L) (_hc0 : L.length ≤ c0)
    (w0 : L.length ≤ 9223372036854775807 ∧ L.length * 24 ≤ 140737488351232 ∧ ∀ x ∈ L, x.length ≤ 9223372036854775807 ∧ x.length * 1 ≤ 140737488351232 ∧ ∀ y ∈ x, (Lit.int .u8 y).wf = true) :
    Calls Try.prog 3 #[.slice A0 L.length c0] w fun e w' => e = .returned (.bool true) ∧ Below w.heap.size w w' := by
  have HR := Aside0.mk hr0
  have HBy := Aside0.mk (show ∀ l ∈ L, Bytes l from fun l hl => Bytes.of (w0.2.2 l hl).2.2)
  obtain ⟨n, hn'⟩ : ∃ n, L.length = n := ⟨_, rfl⟩
  rw [hn'] at HR ⊢
  have HN := Aside0.mk hn'
  clear hn' hr0 w0 _hc0
  by_cases h12 : 12 < n
  · have hd12 : decide (12 < (n : Int)) = true := decide_eq_true (by omega)
    clear HR
    go_enter Try.func3, Try.ntmps3
    go_wp2_with fail
    refine (halftonelaw11_fixed.calls true w rfl).mono ?_
    rintro e w1 ⟨rfl, hb1⟩
    go_wp2
    go_ret
    exact ⟨rfl, hb1⟩
  · have hn12 : n ≤ 12 := by omega
    have hd12 : decide (12 < (n : Int)) = false := decide_eq_false (by omega)
    clear h12
    go_enter Try.func3, Try.ntmps3
    go_wp2_with fail
    refine (halftonelaw11_fixed.calls true w rfl).mono ?_
    rintro e w1 ⟨rfl, hb1⟩
    have HB1 := Aside0.mk hb1
    clear hb1
    go_wp2_with fail
    refine (new_li HB1.out).mono ?_
    rintro e w2 ⟨g, rfl, hL2, hb2⟩
    have HL2 := Aside0.mk hL2
    have HB2 := Aside0.mk hb2
    clear hL2 hb2 HB1
    go_wp2
    go_loopw [4, 5, 6, 25] (fun v4 v5 v6 i wr => ∃ (t : Nat) (u4 u5 : Value) (bb : Bool), u4 = v4 ∧ u5 = v5 ∧ v6 = .bool bb ∧ i = .int .i64 t ∧ t ≤ n ∧ Aside0 (∃ hv r all fs l, (r.e != 0) = bb ∧ LI wr w.heap.size wr.heap.size wr.heap.size g hv u4 u5 r all fs l ∧ Inv t r all l) ∧ Aside0 (Below w.heap.size w wr)) (fun _ _ _ i _ => n - (intOf i).toNat)
    case atStart => exact ⟨0, _, _, false, rfl, rfl, rfl, rfl, Nat.zero_le _, ⟨⟨_, _, _, _, _, rfl, HL2.out, Inv.new⟩⟩, ⟨HB2.out⟩⟩
    case round =>
      clear HL2 HB2
      obtain ⟨t, u4, u5, bb, rfl, rfl, rfl, rfl, ht, HQ, HB⟩ := hrel
      obtain ⟨wo, rfl⟩ : ∃ wo : World, wo = wr := ⟨_, rfl⟩
      obtain ⟨hv, r, all, fs, l, hbb, hL, hI⟩ := HQ.out
      have HBB := Aside0.mk hbb
      have HL := Aside0.mk hL
      have HI := Aside0.mk hI
      clear hbb hL hI HQ
      by_cases hlt : t < n
      · obtain ⟨ad, Ap, cp, rfl, hx, hCp⟩ := part_at HR.out HB.out hlt
        have HPB := Aside0.mk (show Bytes (L.getD t []) from HBy.out _ (by rw [List.getD_eq_getElem?_getD, List.getElem?_eq_getElem (by rw [HN.out]; exact hlt)]; simp))
        obtain ⟨p, hp⟩ : ∃ p, L.getD t [] = p := ⟨_, rfl⟩
        rw [hp] at hx hCp HPB
        clear hp
        have HCp := Aside0.mk hCp
        clear hCp
        obtain ⟨m, hm⟩ : ∃ m, p.length = m := ⟨_, rfl⟩
        have HM := Aside0.mk hm
        rw [hm] at hx HCp
        clear hm
        by_cases h600 : 600 < m
        · have hd6 : decide (600 < (m : Int)) = true := decide_eq_true (by omega)
          go_wp2
          go_ret
          exact ⟨rfl, HB.out⟩
        · have hd6 : decide (600 < (m : Int)) = false := decide_eq_false (by omega)
          have hm6 : m ≤ 600 := by omega
          clear h600
          obtain ⟨R, psF, l', all', f, kk, hs, hall, hg, hI', hpl, hof, hfe, hbt⟩ := Inv.any HI.out HPB.out (by have := HM.out; omega) (show t < 12 by omega)
          have HS := Aside0.mk hs
          have HALL := Aside0.mk hall
          have HGM := Aside0.mk hg
          have HI' := Aside0.mk hI'
          have HPL := Aside0.mk hpl
          have HOF := Aside0.mk hof
          have HFE := Aside0.mk hfe
          have HBT := Aside0.mk hbt
          clear hs hall hg hI' hpl hof hfe hbt
          have H4 := Aside0.mk (show ∀ k, u4.ownBlock = some k → k < wo.heap.size from fun k e => Kd.R_lt HL.out.al k e)
          go_wp2_with (first
            | ((with_reducible refine gate_dst (N := 32) rfl ?_); refine Kd.R_lit (Kd.int .u8) (w0 := wo) wo.heap.size 5 ?hg (N := 32) ?hd (xs := ([] : List Int)) (inner := []) (ok := fun _ => True) (okp := fun _ => True) ?hr ?hp (fun _ hk => hk) trivial (Below.refl _ _) (Nat.le_refl _) (by simp) ?_; (case hd => rfl); (case hg => rfl); (case hr => first | (go_simp; done) | (go_simp; rfl)); (case hp => exact (Reps.none _ _)); intro v1 w1 ho1 hb1 hg_ hnew_; clear hg_ hnew_; have HO1 := Aside0.mk ho1; have HB1 := Aside0.mk hb1; have HC1 := Aside0.mk (HCp.out w1 (below_then HB.out HB.out.size hb1)); clear ho1 hb1)
            | ((with_reducible refine gate_builtin (b := .append) (xs := #[.tmp 32, .tmp 33]) rfl ?_); at_builtin; go_loud (refine Kd.R_append_rows (Kd.int .u8) (w0 := wo) wo.heap.size rfl (.tmp 32) (.tmp 33) 26 5 (.int .u8 0) 1 rfl Try.underlying26 info5 rfl (by decide) (by decide) v1 [] p Ap m cp (fun _ => True) (fun _ => False) rfl rfl HO1.out HC1.out (fun _ _ h => h) (fun _ h => h.elim) (fun _ _ => trivial) HB1.out HB1.out.size (by simp; omega) ?_); intro v2 w2 ho2 hb2 hg_ hat_; clear hg_ hat_; rw [List.nil_append] at ho2; obtain ⟨A2, c2, rfl⟩ := Kd.R_slice ho2; rw [HM.out] at ho2 ⊢; have H9 := Aside0.mk (show ∀ k, (Value.slice A2 m c2).ownBlock = some k → wo.heap.size ≤ k ∧ k < w2.heap.size from fun k e => ⟨Kd.R_base ho2 k e, Kd.R_lt ho2 k e⟩); have HO2 := Aside0.mk ho2; have HL2 := Aside0.mk (HL.out.start hb2); have HB2 := Aside0.mk (below_then HB.out HB.out.size hb2); have HZ2 := Aside0.mk hb2.size; clear hb2 ho2 HO1 HB1 HC1)
            | (go_at_call 10; refine (push_li HL2.out HB2.out.size HO2.out HPB.out HM.out hm6 HS.out).mono ?_; rintro e w3 ⟨hv', Aq, N, cq, pcs, rfl, hL3, hP3, hO3, hb3, hz3⟩; have HL3 := Aside0.mk hL3; have HP3 := Aside0.mk hP3; have HO3 := Aside0.mk hO3; have HB3 := Aside0.mk (HB2.out.trans hb3); have HZ3 := Aside0.mk hz3; clear hL3 hP3 hO3 hb3 hz3))
          have HLL := Aside0.mk (show l'.length ≤ 1000000 ∧ ∀ x ∈ l', x.f2.length ≤ 1000000 from ⟨by have := HI'.out.ln; omega, fun x hx => by have := totS_mem hx; have := HI'.out.tl; omega⟩)
          have HNN := Aside0.mk (show N ≤ 1000000 from by have h1 := (HP3.out.at_ (S := fun _ => False) (fun _ h => h.elim)).1; have h2 := HPL.out; omega)
          have HN0 := Aside0.mk (HP3.out.at_ (S := fun _ => False) (fun _ h => h.elim)).1
          go_loopw [43] (fun i wr => ∃ j : Nat, i = .int .i64 j ∧ j ≤ m ∧ Aside0 (∃ xs, Kd.R (Kd.int .u8) 5 wr wo.heap.size (fun _ => True) (.slice A2 m c2) xs) ∧ Aside0 (Kept w3 wr (fun k => (Value.slice A2 m c2).ownBlock = some k)) ∧ Aside0 (Below w.heap.size w wr)) (fun i _ => m - (intOf i).toNat)
          case atStart => exact ⟨0, rfl, Nat.zero_le _, ⟨_, HO3.out⟩, ⟨Kept.refl _ _⟩, HB3⟩
          case round =>
            obtain ⟨j, rfl, hj, HX, HK, HBX⟩ := hrel
            by_cases hjm : j < m
            · obtain ⟨xs, hxs⟩ := HX.out
              have hxm : xs.length = m := (Kd.R_reads' hxs).1.symm
              obtain ⟨go, c9, e9, _⟩ := rowA_form hxm (by omega) hxs
              injection e9 with e9 _ _
              subst e9
              obtain ⟨cs, hcs, hM, hcell, hfr⟩ := Kd.R_elem hxs 0 (j : Int) (by omega) (by omega)
              obtain rfl : cs = [.int .u8 (xs.getD (j : Int).toNat 0)] := hM
              have hc := hcell 0 _ rfl
              have hf := hfr 0
              have e1 : (Kd.int .u8).sz = 1 := rfl
              rw [e1] at hc hf
              simp only [Int.toNat_natCast, Nat.mul_one, Nat.add_zero] at hc hf
              have HXS := Aside0.mk hxs
              obtain ⟨x, hx⟩ : ∃ x, xs.getD j 0 = x := ⟨_, rfl⟩
              rw [hx] at hc
              have HGO := Aside0.mk (show w.heap.size ≤ go from Nat.le_trans HB.out.size (Kd.R_base hxs go rfl))
              have hj0 : (0 : Int) ≤ (j : Int) := by omega
              have hjm' : (j : Int) < (m : Int) := by omega
              clear hx hxs HX hcell hfr hcs e1 hxm
              go_wp2
              go_roundw
              case rel => exact ⟨j + 1, by go_num, by omega, ⟨⟨_, Kd.R_putn HXS.out (j : Int) _⟩⟩, ⟨kept_set HK.out (p := ⟨go, j, none⟩) rfl _⟩, ⟨HBX.out.setCell (p := ⟨go, j, none⟩) HGO.out _⟩⟩
              case measure => simp [intOf]; omega
            · obtain rfl : j = m := by omega
              have HL4 := Aside0.mk (HL3.out.turned H9.out HK.out)
              have HP4 := Aside0.mk (HP3.out.step (fun k a b => HK.out.2 k b (fun e => by have := (H9.out k e).2; omega)))
              have HZ4 := Aside0.mk (Nat.le_trans HZ3.out HK.out.1)
              clear HL3 HP3 HX HO3 HB3 HO2 HL2 HL HK
              cases bb with
              | false =>
                have he0 : r.e = 0 := by simpa using HBB.out
                have HA := Aside0.mk (show all' = all ++ p by rw [HALL.out, if_pos he0])
                have HC4 := Aside0.mk (HCp.out wr HBX.out)
                have HFR := Aside0.mk (show ∀ k, wr.heap.size ≤ k → some k ≠ hv'.ownBlock from fun k hk e => by have := Kd.R_lt HL4.out.rd.row k e.symm; omega)
                have HZL := Aside0.mk (show (all.length + j) * 1 ≤ 140737488355328 by have := HI.out.al; omega)
                clear he0
                go_wp2_with ((with_reducible refine gate_builtin (b := .append) (xs := #[.tmp 55, .tmp 56]) rfl ?_); at_builtin; go_loud (refine Kd.R_append_rows (Kd.int .u8) (w0 := wr) w.heap.size rfl (.tmp 55) (.tmp 56) 26 5 (.int .u8 0) 1 rfl Try.underlying26 info5 rfl (by decide) (by decide) u4 all p Ap j cp (fun k => some k ≠ hv'.ownBlock) (fun _ => False) rfl rfl HL4.out.al HC4.out (fun _ _ h => h) (fun _ h => h.elim) HFR.out (Below.refl _ _) HBX.out.size HZL.out ?_); intro v5 w5 ho5 hb5 hg5 hat5; rw [← HA.out] at ho5; obtain ⟨A5, c5, rfl⟩ := Kd.R_slice ho5; have HL5 := Aside0.mk (HL4.out.app HZ4.out ho5 hg5 hat5); have H45 := Aside0.mk (kept_grown hg5 (S := fun k => u4.ownBlock = some k) (fun k e => e)); have HP5 := Aside0.mk (HP4.out.step (fun k a b => H45.out.2 k b (fun e => by have := H4.out k e; have := HZ2.out; omega))); have HB5 := Aside0.mk (HBX.out.trans hb5); have HZ5 := Aside0.mk (Nat.le_trans HZ2.out (Nat.le_trans HZ4.out H45.out.1)); clear hb5 ho5 hg5 hat5 H45 HL4 HP4)
                by_cases hf2 : f = 2
                · subst hf2
                  have hR0 : R.e = 0 := by rw [← HFE.out]; rfl
                  replace HBT := Aside0.mk (HBT.out.trans (show ((2 : Int) == 0) = false from rfl))
                  go_wp2_with (go_at_call 11; go_loud (refine (halftoneref11_Of.calls kk (fun k => some k ≠ hv'.ownBlock) A5 c5 all' l' 2 w5 (Kd.R_V HL5.out.al) HOF.out).mono ?_); rintro e w6 ⟨v13, rfl, hS6, hb6⟩; obtain ⟨A13, c13, rfl⟩ := Kd.R_slice (Kd.S_R hS6); have HS6 := Aside0.mk hS6; have HL6 := Aside0.mk (HL5.out.below hb6); have HP6 := Aside0.mk (HP5.out.step (fun k _ hk => hb6.block k hk)); have HB6 := Aside0.mk (below_then HB5.out HB5.out.size hb6); clear hS6 hb6 HL5 HP5 HB5)
                  refine (between_walk HL6.out.rd).mono ?_
                  rintro e w7 ⟨rfl, h7⟩
                  rw [h7, HBT.out]
                  clear h7
                  go_wp2_with fail
                  go_loud (refine (gather_walk (ok := okG wo.heap.size g hv' (.slice A5 all'.length c5)) HL6.out.gt HB6.out.size Aq N cq (HP6.out.at_ (S := okG wo.heap.size g hv' (.slice A5 all'.length c5)) (fun k s => Nat.lt_of_lt_of_le s.1 HZ2.out)).1 (HP6.out.at_ (fun k s => Nat.lt_of_lt_of_le s.1 HZ2.out)).2 HGM.out HLL.out HNN.out).mono ?_)
                  rintro e w8 ⟨v8, fs8, rfl, hG8, hK8, hb8⟩
                  have HL8 := Aside0.mk (HL6.out.gather hK8 hG8)
                  have HS8 := Aside0.mk (Kd.S_kept HS6.out hK8 (fun k a s => absurd (Nat.lt_of_lt_of_le s.1 (Nat.le_trans HZ5.out a)) (Nat.lt_irrefl _)))
                  have HB8 := Aside0.mk (HB6.out.trans hb8)
                  clear hG8 hK8 hb8 HL6 HS6 HB6 HP6
                  obtain ⟨A8, c8, rfl, _, hC8⟩ := HL8.out.gt.reads
                  have HC8 := Aside0.mk hC8
                  clear hC8
                  go_wp2_with fail
                  refine (same_walk A8 A13 _ c8 c13 l' w8 rfl HC8.out (Kd.S_reads' HS8.out).2.2 HLL.out.1).mono ?_
                  rintro e w9 ⟨rfl, nq, h9⟩
                  rw [h9]
                  clear h9
                  go_wp2
                  have HL9 := Aside0.mk (HL8.out.below (pw_below_drewN (Below.refl _ _) nq))
                  have HB9 := Aside0.mk (pw_below_drewN HB8.out nq)
                  go_roundw
                  case rel => exact ⟨t + 1, _, _, _, rfl, rfl, rfl, by go_num, by omega, ⟨⟨hv', R, all', fs8, l', by first | rfl | simp [hR0], HL9.out, HI'.out⟩⟩, ⟨HB9.out⟩⟩
                  case measure => simp [intOf]; omega
                · have hfR : f = R.e := by rw [← HFE.out, if_neg hf2]
                  subst hfR
                  have hR0 : (R.e == 2) = false := beq_false_of_ne hf2
                  go_wp2_with (go_at_call 11; go_loud (refine (halftoneref11_Of.calls kk (fun k => some k ≠ hv'.ownBlock) A5 c5 all' l' R.e w5 (Kd.R_V HL5.out.al) HOF.out).mono ?_); rintro e w6 ⟨v13, rfl, hS6, hb6⟩; obtain ⟨A13, c13, rfl⟩ := Kd.R_slice (Kd.S_R hS6); have HS6 := Aside0.mk hS6; have HL6 := Aside0.mk (HL5.out.below hb6); have HP6 := Aside0.mk (HP5.out.step (fun k _ hk => hb6.block k hk)); have HB6 := Aside0.mk (below_then HB5.out HB5.out.size hb6); clear hS6 hb6 HL5 HP5 HB5)
                  refine (between_walk HL6.out.rd).mono ?_
                  rintro e w7 ⟨rfl, h7⟩
                  rw [h7, HBT.out]
                  clear h7
                  go_wp2_with fail
                  go_loud (refine (gather_walk (ok := okG wo.heap.size g hv' (.slice A5 all'.length c5)) HL6.out.gt HB6.out.size Aq N cq (HP6.out.at_ (S := okG wo.heap.size g hv' (.slice A5 all'.length c5)) (fun k s => Nat.lt_of_lt_of_le s.1 HZ2.out)).1 (HP6.out.at_ (fun k s => Nat.lt_of_lt_of_le s.1 HZ2.out)).2 HGM.out HLL.out HNN.out).mono ?_)
                  rintro e w8 ⟨v8, fs8, rfl, hG8, hK8, hb8⟩
                  have HL8 := Aside0.mk (HL6.out.gather hK8 hG8)
                  have HS8 := Aside0.mk (Kd.S_kept HS6.out hK8 (fun k a s => absurd (Nat.lt_of_lt_of_le s.1 (Nat.le_trans HZ5.out a)) (Nat.lt_irrefl _)))
                  have HB8 := Aside0.mk (HB6.out.trans hb8)
                  clear hG8 hK8 hb8 HL6 HS6 HB6 HP6
                  obtain ⟨A8, c8, rfl, _, hC8⟩ := HL8.out.gt.reads
                  have HC8 := Aside0.mk hC8
                  clear hC8
                  go_wp2_with fail
                  refine (same_walk A8 A13 _ c8 c13 l' w8 rfl HC8.out (Kd.S_reads' HS8.out).2.2 HLL.out.1).mono ?_
                  rintro e w9 ⟨rfl, nq, h9⟩
                  rw [h9]
                  clear h9
                  go_wp2
                  have HL9 := Aside0.mk (HL8.out.below (pw_below_drewN (Below.refl _ _) nq))
                  have HB9 := Aside0.mk (pw_below_drewN HB8.out nq)
                  go_roundw
                  case rel => exact ⟨t + 1, _, _, _, rfl, rfl, rfl, by go_num, by omega, ⟨⟨hv', R, all', fs8, l', by first | rfl | simp [hR0], HL9.out, HI'.out⟩⟩, ⟨HB9.out⟩⟩
                  case measure => simp [intOf]; omega
              | true =>
                have he0 : ¬ r.e = 0 := by simpa using HBB.out
                have HA := Aside0.mk (show all' = all by rw [HALL.out, if_neg he0])
                have HPN := Aside0.mk (show N = 0 by rcases HS.out with h | h; exact absurd h.1 he0; have h1 := HN0.out; rw [h.2.2] at h1; exact h1.symm)
                obtain rfl := HPN.out
                have HL5 := HL4
                rw [← HA.out] at HL5
                have HP5 := HP4
                have HB5 := HBX
                have HZ5 := Aside0.mk (Nat.le_trans HZ2.out HZ4.out)
                obtain ⟨A5, c5, rfl⟩ := Kd.R_slice HL5.out.al
                obtain ⟨w5, rfl⟩ : ∃ w5 : World, w5 = wr := ⟨_, rfl⟩
                clear he0 HPN HL4 HP4 HBX
                by_cases hf2 : f = 2
                · subst hf2
                  have hR0 : R.e = 0 := by rw [← HFE.out]; rfl
                  replace HBT := Aside0.mk (HBT.out.trans (show ((2 : Int) == 0) = false from rfl))
                  go_wp2_with (go_at_call 11; go_loud (refine (halftoneref11_Of.calls kk (fun k => some k ≠ hv'.ownBlock) A5 c5 all' l' 2 w5 (Kd.R_V HL5.out.al) HOF.out).mono ?_); rintro e w6 ⟨v13, rfl, hS6, hb6⟩; obtain ⟨A13, c13, rfl⟩ := Kd.R_slice (Kd.S_R hS6); have HS6 := Aside0.mk hS6; have HL6 := Aside0.mk (HL5.out.below hb6); have HP6 := Aside0.mk (HP5.out.step (fun k _ hk => hb6.block k hk)); have HB6 := Aside0.mk (below_then HB5.out HB5.out.size hb6); clear hS6 hb6 HL5 HP5 HB5)
                  refine (between_walk HL6.out.rd).mono ?_
                  rintro e w7 ⟨rfl, h7⟩
                  rw [h7, HBT.out]
                  clear h7
                  go_wp2_with fail
                  go_loud (refine (gather_walk (ok := okG wo.heap.size g hv' (.slice A5 all'.length c5)) HL6.out.gt HB6.out.size Aq 0 cq (HP6.out.at_ (S := okG wo.heap.size g hv' (.slice A5 all'.length c5)) (fun k s => Nat.lt_of_lt_of_le s.1 HZ2.out)).1 (HP6.out.at_ (fun k s => Nat.lt_of_lt_of_le s.1 HZ2.out)).2 HGM.out HLL.out HNN.out).mono ?_)
                  rintro e w8 ⟨v8, fs8, rfl, hG8, hK8, hb8⟩
                  have HL8 := Aside0.mk (HL6.out.gather hK8 hG8)
                  have HS8 := Aside0.mk (Kd.S_kept HS6.out hK8 (fun k a s => absurd (Nat.lt_of_lt_of_le s.1 (Nat.le_trans HZ5.out a)) (Nat.lt_irrefl _)))
                  have HB8 := Aside0.mk (HB6.out.trans hb8)
                  clear hG8 hK8 hb8 HL6 HS6 HB6 HP6
                  obtain ⟨A8, c8, rfl, _, hC8⟩ := HL8.out.gt.reads
                  have HC8 := Aside0.mk hC8
                  clear hC8
                  go_wp2_with fail
                  refine (same_walk A8 A13 _ c8 c13 l' w8 rfl HC8.out (Kd.S_reads' HS8.out).2.2 HLL.out.1).mono ?_
                  rintro e w9 ⟨rfl, nq, h9⟩
                  rw [h9]
                  clear h9
                  go_wp2
                  have HL9 := Aside0.mk (HL8.out.below (pw_below_drewN (Below.refl _ _) nq))
                  have HB9 := Aside0.mk (pw_below_drewN HB8.out nq)
                  go_roundw
                  case rel => exact ⟨t + 1, _, _, _, rfl, rfl, rfl, by go_num, by omega, ⟨⟨hv', R, all', fs8, l', by first | rfl | simp [hR0], HL9.out, HI'.out⟩⟩, ⟨HB9.out⟩⟩
                  case measure => simp [intOf]; omega
                · have hfR : f = R.e := by rw [← HFE.out, if_neg hf2]
                  subst hfR
                  have hR0 : (R.e == 2) = false := beq_false_of_ne hf2
                  go_wp2_with (go_at_call 11; go_loud (refine (halftoneref11_Of.calls kk (fun k => some k ≠ hv'.ownBlock) A5 c5 all' l' R.e w5 (Kd.R_V HL5.out.al) HOF.out).mono ?_); rintro e w6 ⟨v13, rfl, hS6, hb6⟩; obtain ⟨A13, c13, rfl⟩ := Kd.R_slice (Kd.S_R hS6); have HS6 := Aside0.mk hS6; have HL6 := Aside0.mk (HL5.out.below hb6); have HP6 := Aside0.mk (HP5.out.step (fun k _ hk => hb6.block k hk)); have HB6 := Aside0.mk (below_then HB5.out HB5.out.size hb6); clear hS6 hb6 HL5 HP5 HB5)
                  refine (between_walk HL6.out.rd).mono ?_
                  rintro e w7 ⟨rfl, h7⟩
                  rw [h7, HBT.out]
                  clear h7
                  go_wp2_with fail
                  go_loud (refine (gather_walk (ok := okG wo.heap.size g hv' (.slice A5 all'.length c5)) HL6.out.gt HB6.out.size Aq 0 cq (HP6.out.at_ (S := okG wo.heap.size g hv' (.slice A5 all'.length c5)) (fun k s => Nat.lt_of_lt_of_le s.1 HZ2.out)).1 (HP6.out.at_ (fun k s => Nat.lt_of_lt_of_le s.1 HZ2.out)).2 HGM.out HLL.out HNN.out).mono ?_)
                  rintro e w8 ⟨v8, fs8, rfl, hG8, hK8, hb8⟩
                  have HL8 := Aside0.mk (HL6.out.gather hK8 hG8)
                  have HS8 := Aside0.mk (Kd.S_kept HS6.out hK8 (fun k a s => absurd (Nat.lt_of_lt_of_le s.1 (Nat.le_trans HZ5.out a)) (Nat.lt_irrefl _)))
                  have HB8 := Aside0.mk (HB6.out.trans hb8)
                  clear hG8 hK8 hb8 HL6 HS6 HB6 HP6
                  obtain ⟨A8, c8, rfl, _, hC8⟩ := HL8.out.gt.reads
                  have HC8 := Aside0.mk hC8
                  clear hC8
                  go_wp2_with fail
                  refine (same_walk A8 A13 _ c8 c13 l' w8 rfl HC8.out (Kd.S_reads' HS8.out).2.2 HLL.out.1).mono ?_
                  rintro e w9 ⟨rfl, nq, h9⟩
                  rw [h9]
                  clear h9
                  go_wp2
                  have HL9 := Aside0.mk (HL8.out.below (pw_below_drewN (Below.refl _ _) nq))
                  have HB9 := Aside0.mk (pw_below_drewN HB8.out nq)
                  go_roundw
                  case rel => exact ⟨t + 1, _, _, _, rfl, rfl, rfl, by go_num, by omega, ⟨⟨hv', R, all', fs8, l', by first | rfl | simp [hR0], HL9.out, HI'.out⟩⟩, ⟨HB9.out⟩⟩
                  case measure => simp [intOf]; omega
      · obtain rfl : n = t := by omega
        go_wp2
        go_ret
        exact ⟨rfl, HB.out⟩
end Go.Proofs.Ytapaodagnpaekaa.Lib
