/- SenderAgain: the walk. -/
import Derived.Test.YtfmggodmhklfoaaA6
namespace Go.Proofs.Ytfmggodmhklfoaa.Lib
open Go.RowKit Go.Shelf Go.Proofs.YtfmggodmhklfoaaW.PrintWords Go.Proofs.YtfmggodmhklfoaaW.PrintLast Go.Proofs.YtfmggodmhklfoaaW.PrintMore
set_option linter.unusedVariables false
set_option linter.unusedSimpArgs false
set_option maxHeartbeats 2000000 in
set_option maxRecDepth 100000 in
theorem again_row (n0 wd0 f0 m0 : Int) (A3 : Option Addr) (c3 : Nat) (xs : List Actd) (w : World) (hw0 : (Lit.int .u8 n0).wf = true) (hw1 : (Lit.int .u8 wd0).wf = true) (hw2 : (Lit.int .u8 f0).wf = true) (hw3 : (Lit.int .u8 m0).wf = true) (hr : Kd.C k34 w A3 xs.length xs) (hc3 : xs.length ≤ c3) (hok : ∀ x ∈ xs, ActOk x) :
    Calls Try.prog 5 #[.int .u8 n0, .int .u8 wd0, .int .u8 f0, .int .u8 m0, .slice A3 xs.length c3] w fun e w' => e = .returned (.bool true) ∧ Below w.heap.size w w' := by
  have h0 := bounds_u8 hw0
  have h1 := bounds_u8 hw1
  have h2 := bounds_u8 hw2
  have h3 := bounds_u8 hw3
  clear hw0 hw1 hw2 hw3
  obtain ⟨n, rfl⟩ : ∃ n : Nat, n0 = n := ⟨n0.toNat, by omega⟩
  obtain ⟨wd, hwd⟩ : ∃ wd : Nat, 1 + wd0 % 64 = wd := ⟨(1 + wd0 % 64).toNat, by omega⟩
  obtain ⟨fs, hfs⟩ : ∃ fs : Nat, 1 + f0 % 8 = fs := ⟨(1 + f0 % 8).toNat, by omega⟩
  obtain ⟨ms, hms⟩ : ∃ ms : Nat, (fs : Int) + m0 % 8 = ms := ⟨(fs + m0 % 8).toNat, by omega⟩
  have hwd1 : 1 ≤ wd ∧ wd ≤ 64 := by omega
  have hn1 : n ≤ 255 := by omega
  have hms1 : 1 ≤ ms ∧ ms ≤ 15 := by omega
  have HC := Aside0.mk (show CfgOk n wd fs ms by unfold CfgOk; omega)
  have HF := Aside0.mk (show ∀ W : World, Below w.heap.size w W → Calls Try.prog 11 #[.slice A3 xs.length c3] W fun e w' => FewPost xs.length w e w' from fun W hW => few_walk A3 c3 xs w W hr hW hok)
  have HR := Aside0.mk hr
  have HOK := Aside0.mk hok
  obtain ⟨l, hl⟩ : ∃ l, xs.length = l := ⟨_, rfl⟩
  rw [hl] at HR HF ⊢
  have HN := Aside0.mk hl
  clear hr hok hl hc3
  by_cases hn0 : n = 0
  · subst hn0
    go_enter Try.func5, Try.ntmps5
    go_wp2_with (first
      | (go_at_call 8; refine (halftonelaw23_fixed.calls true _ rfl).mono ?_; rintro e w1 ⟨rfl, hb1⟩; have HB1 := Aside0.mk hb1; clear hb1)
      | (go_at_call 11; refine (HF.out _ HB1.out).mono ?_; rintro e w2 ⟨b, rfl, hb, hb2⟩; have HB2 := Aside0.mk hb2; clear hb2; rcases b with _ | _))
    · go_ret
      exact ⟨rfl, HB2.out⟩
    · go_ret
      exact ⟨rfl, HB2.out⟩
  have hn0' : ((n : Int) == 0) = false := by simp; omega
  go_enter Try.func5, Try.ntmps5
  go_wp2_with (first
    | (go_at_call 8; refine (halftonelaw23_fixed.calls true _ rfl).mono ?_; rintro e w1 ⟨rfl, hb1⟩; have HB1 := Aside0.mk hb1; clear hb1)
    | (go_at_call 11; refine (HF.out _ HB1.out).mono ?_; rintro e w2 ⟨b, rfl, hb, hb2⟩; have HB2 := Aside0.mk hb2; clear hb2; rcases b with _ | _))
  · go_ret
    exact ⟨rfl, HB2.out⟩
  have hl201 : l ≤ 201 := by simpa using hb
  clear hb HF
  go_wp2_with (first
    | (go_at_call 9; refine (new_walk n wd fs ms w2 HC.out).mono ?_; rintro e w3 ⟨g, rfl, hI3, hb3, hg3⟩; have HS := Aside0.mk (show St w w3 g ⟨n, wd, fs, ms⟩ 0 0 (.slice none 0 0) [] from ⟨hI3.low HB2.out.size, HB2.out.trans (hb3.mono HB2.out.size), Good.new HC.out, HC.out⟩); clear hI3 hb3 hg3))
  clear HB1 HB2
  go_loopw [56, 15, 16, 17] (fun i s b t wr => ∃ (k : Nat) (bs nw : Int) (vs : Value) (its : List S54) (sn : Int) (st : Bool), i = .int .i64 k ∧ s = .int .i64 sn ∧ b = .int .i64 bs ∧ t = .bool st ∧ k ≤ l ∧ Aside0 (nw ≤ k) ∧ Aside0 (0 ≤ sn ∧ sn ≤ k) ∧ Aside0 (AgInv ⟨n, wd, fs, ms⟩ bs nw its sn) ∧ Aside0 (St w wr g ⟨n, wd, fs, ms⟩ bs nw vs its)) (fun i _ _ _ _ => l - (intOf i).toNat)
  case atStart => exact ⟨0, _, _, _, _, _, false, rfl, rfl, rfl, rfl, Nat.zero_le _, ⟨by simp⟩, ⟨by simp⟩, ⟨ag_new HC.out⟩, HS⟩
  case round =>
    clear HS
    obtain ⟨k, bs, nw, vs, its, sn, st, rfl, rfl, rfl, rfl, hk, HNW, HSN, HAG, HS⟩ := hrel
    obtain ⟨wo, rfl⟩ : ∃ wo : World, wo = wr := ⟨_, rfl⟩
    by_cases hlt : k < l
    · obtain ⟨ad, Ar, cr, rfl, hx0, hx1, hx2, hcr, hC⟩ := k34_at HR.out k hlt
      have ho : ActOk (xs.getD k z34) := HOK.out _ (by rw [List.getD_eq_getElem?_getD, List.getElem?_eq_getElem (by rw [HN.out]; omega)]; simp)
      obtain ⟨⟨isA, next, rs⟩, hx⟩ : ∃ x, xs.getD k z34 = x := ⟨_, rfl⟩
      rw [hx] at hx0 hx1 hx2 hcr hC ho
      simp only at hx0 hx1 hx2 hcr hC
      obtain ⟨m, hm⟩ : ∃ m, rs.length = m := ⟨_, rfl⟩
      have HM := Aside0.mk hm
      rw [hm] at hx2 hcr
      replace hx0 := pw_cell_below HS.out.bl hx0
      replace hx1 := pw_cell_below HS.out.bl hx1
      replace hx2 := pw_cell_below HS.out.bl hx2
      have HCR := Aside0.mk hC
      have HO := Aside0.mk ho
      clear hx hm hC ho
      have hbs : 0 ≤ bs ∧ bs ≤ n := ⟨HS.out.ok.b0, by have h : bs + its.length ≤ (n : Int) := HS.out.ok.fit; omega⟩
      have hsn := HSN.out
      rcases isA with _ | _
      · obtain ⟨P, hP⟩ : ∃ P, tickL ⟨n, wd, fs, ms⟩ bs nw its = P := ⟨_, rfl⟩
        obtain ⟨L, hL⟩ : ∃ L, P.2.length = L := ⟨_, rfl⟩
        have ho := (outs_order HS.out.ok).1
        have hag := ag_tick HS.out.ok HS.out.cf HAG.out
        rw [hP] at ho hag
        rw [hL] at ho
        have hLm : L ≤ 64 := by have h : (L : Int) ≤ wd := ho; omega
        have HAG2 := Aside0.mk hag
        have HLL := Aside0.mk hL
        have HTK := Aside0.mk (show ∀ W, St w W g ⟨n, wd, fs, ms⟩ bs nw vs its → _ from fun W h => h.tick (by have := HNW.out; omega) hP hL)
        clear ho hP hL hag
        go_wp2_with (first
          | (go_at_call 15; refine (HTK.out _ (HS.out.alloc _)).mono ?_; rintro e w5 ⟨A, cp, v1, rfl, hcp, hS5, hC5, hL5⟩; have HS5 := Aside0.mk hS5; have HC5 := Aside0.mk (Kd.R_reads' hC5).2.2; clear hS5 hC5 hL5))
        clear hx0 hx1 hx2
        have HSN2 := Aside0.mk hsn
        clear hsn
        go_loopw [79, 15, 17] (fun i s t wr => ∃ (j : Nat) (q : Int) (b : Bool), i = .int .i64 j ∧ s = .int .i64 q ∧ t = .bool b ∧ j ≤ L ∧ Aside0 (q = agS bs sn (P.2.take j)) ∧ Aside0 (b = agB bs st (P.2.take j)) ∧ Aside0 (wr = w5)) (fun i _ _ _ => L - (intOf i).toNat)
        case atStart => exact ⟨0, _, _, rfl, rfl, rfl, Nat.zero_le _, ⟨by simp [agS]⟩, ⟨by simp [agB]⟩, ⟨rfl⟩⟩
        case round =>
          obtain ⟨j, q, b, rfl, rfl, rfl, hj, HQ, HB, ⟨rfl⟩⟩ := hrel
          by_cases hlt2 : j < L
          · obtain ⟨ad2, rfl, hy⟩ := at_int (by have h := HC5.out; rw [HLL.out] at h; exact h) j hlt2
            have hs1 := agS_step (bs := bs) (sn := sn) (l := P.2) (j := j) (by rw [HLL.out]; exact hlt2)
            have hs2 := agB_step (bs := bs) (b := st) (l := P.2) (j := j) (by rw [HLL.out]; exact hlt2)
            rw [← HQ.out] at hs1
            rw [← HB.out] at hs2
            obtain ⟨y, hyy⟩ : ∃ y, P.2.getD j 0 = y := ⟨_, rfl⟩
            rw [hyy] at hy hs1 hs2
            clear hyy
            by_cases e : y = bs
            · rw [if_pos e] at hs1 hs2
              have HS1 := Aside0.mk hs1
              have HS2 := Aside0.mk hs2
              have hd : (y == bs) = true := by simp [e]
              clear hs1 hs2 e
              go_wp2
              exact ⟨⟨j + 1, 0, true, by push_cast; rfl, rfl, rfl, by omega, ⟨HS1.out.symm⟩, ⟨HS2.out.symm⟩, ⟨by first | rfl | trivial⟩⟩, by simp [intOf]; omega⟩
            · rw [if_neg e] at hs1 hs2
              have HS1 := Aside0.mk hs1
              have HS2 := Aside0.mk hs2
              have hd : (y == bs) = false := by simp [e]
              clear hs1 hs2 e
              go_wp2
              exact ⟨⟨j + 1, q, b, by push_cast; rfl, rfl, rfl, by omega, ⟨HS1.out.symm⟩, ⟨HS2.out.symm⟩, ⟨by first | rfl | trivial⟩⟩, by simp [intOf]; omega⟩
          · obtain rfl : j = L := by omega
            have hq : q = agS bs sn P.2 := by have h := HQ.out; rw [List.take_of_length_le (by rw [HLL.out]; exact Nat.le_refl _)] at h; exact h
            have hqb := agS_bd (bs := bs) (l := P.2) HSN2.out.1
            have hlm := HAG2.out.lt
            have HAG3 := Aside0.mk (show AgInv ⟨n, wd, fs, ms⟩ bs (nw + 1) P.1 q by rw [hq]; exact HAG2.out)
            rw [← hq] at hqb hlm
            clear hq
            have HQB := Aside0.mk hqb
            by_cases e : bs = n
            · have hd1 : (bs == (n : Int)) = true := by simp [e]
              clear hqb hlm e
              go_wp2_with (go_at_call 21; refine (done_walk _ HS5.out.sd).mono ?_; rintro e w6 ⟨rfl, ⟨nd6, rfl⟩⟩)
              exact ⟨⟨k + 1, bs, nw + 1, _, _, q, b, by push_cast; rfl, rfl, rfl, rfl, by omega, ⟨by have := HNW.out; push_cast; omega⟩, ⟨by have := HSN2.out; have := HQB.out; constructor <;> (push_cast; omega)⟩, HAG3, ⟨HS5.out.drewN _⟩⟩, by simp [intOf]; omega⟩
            · have hd1 : (bs == (n : Int)) = false := by simp [e]
              have hd2 : decide ((ms : Int) ≤ q) = false := decide_eq_false (by have h : q < (ms : Int) := hlm (by show bs < (n : Int); omega); omega)
              clear hqb hlm
              go_wp2_with (go_at_call 21; refine (done_walk _ HS5.out.sd).mono ?_; rintro e w6 ⟨rfl, ⟨nd6, rfl⟩⟩)
              exact ⟨⟨k + 1, bs, nw + 1, _, _, q, b, by push_cast; rfl, rfl, rfl, rfl, by omega, ⟨by have := HNW.out; push_cast; omega⟩, ⟨by have := HSN2.out; have := HQB.out; constructor <;> (push_cast; omega)⟩, HAG3, ⟨HS5.out.drewN _⟩⟩, by simp [intOf]; omega⟩
      · obtain ⟨Q, hQ⟩ : ∃ Q, ackL bs nw its next rs = Q := ⟨_, rfl⟩
        have hag := ag_ack HS.out.ok HS.out.cf HAG.out next rs
        rw [hQ] at hag
        have HAG2 := Aside0.mk hag
        have HAK := Aside0.mk (show ∀ W, St w W g ⟨n, wd, fs, ms⟩ bs nw vs its → _ from fun W h => h.ack next HCR.out HO.out.2.2.2.2 HM.out hQ (c0 := cr))
        clear hag hQ
        by_cases he : Q.1 = bs
        · have hd1 : (Q.1 != bs) = false := by simp [he]
          go_wp2_with (first
            | (go_at_call 12; refine (HAK.out _ (HS.out.alloc _)).mono ?_; rintro e w5 ⟨v1, rfl, hS5, hL5⟩; have HS5 := Aside0.mk hS5; clear hS5 hL5)
            | (go_at_call 17; refine (base_walk _ HS5.out.sd).mono ?_; rintro e w6 ⟨rfl, ⟨nd6, rfl⟩⟩))
          exact ⟨⟨k + 1, bs, nw, v1, Q.2, sn, st, by push_cast; rfl, rfl, rfl, rfl, by omega, ⟨by have := HNW.out; push_cast; omega⟩, ⟨by push_cast; omega⟩, ⟨by have h := HAG2.out; rw [if_pos he, he] at h; exact h⟩, ⟨he ▸ HS5.out.drewN _⟩⟩, by simp [intOf]; omega⟩
        · have hd1 : (Q.1 != bs) = true := by simp [he]
          go_wp2_with (first
            | (go_at_call 12; refine (HAK.out _ (HS.out.alloc _)).mono ?_; rintro e w5 ⟨v1, rfl, hS5, hL5⟩; have HS5 := Aside0.mk hS5; clear hS5 hL5)
            | (go_at_call 17; refine (base_walk _ (HS5.out.drewN nd6).sd).mono ?_; rintro e w7 ⟨rfl, ⟨nd7, rfl⟩⟩)
            | (go_at_call 17; refine (base_walk _ HS5.out.sd).mono ?_; rintro e w6 ⟨rfl, ⟨nd6, rfl⟩⟩))
          exact ⟨⟨k + 1, Q.1, nw, v1, Q.2, 0, st, by push_cast; rfl, rfl, rfl, rfl, by omega, ⟨by have := HNW.out; push_cast; omega⟩, ⟨by constructor <;> omega⟩, ⟨by have h := HAG2.out; rw [if_neg he] at h; exact h⟩, ⟨HS5.out.drewN _⟩⟩, by simp [intOf]; omega⟩
    · have hd : (bs == bs) = true := by simp
      rcases st with _ | _
      · go_wp2_with (go_at_call 17; refine (base_walk _ HS.out.sd).mono ?_; rintro e w6 ⟨rfl, ⟨nd6, rfl⟩⟩)
        go_ret
        exact ⟨rfl, pw_below_drewN HS.out.bl _⟩
      · go_wp2
        go_ret
        exact ⟨rfl, HS.out.bl⟩
end Go.Proofs.Ytfmggodmhklfoaa.Lib
