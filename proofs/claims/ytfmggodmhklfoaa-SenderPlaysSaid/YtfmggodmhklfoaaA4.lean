/- SenderBounds: the walk. -/
import Derived.Test.YtfmggodmhklfoaaA3
namespace Go.Proofs.Ytfmggodmhklfoaa.Lib
open Go.RowKit Go.Shelf Go.Proofs.YtfmggodmhklfoaaW.PrintWords Go.Proofs.YtfmggodmhklfoaaW.PrintLast Go.Proofs.YtfmggodmhklfoaaW.PrintMore
set_option linter.unusedVariables false
set_option linter.unusedSimpArgs false
set_option maxHeartbeats 2000000 in
set_option maxRecDepth 100000 in
theorem bounds_row (n0 wd0 f0 : Int) (A3 : Option Addr) (c3 : Nat) (xs : List Actd) (w : World) (hw0 : (Lit.int .u8 n0).wf = true) (hw1 : (Lit.int .u8 wd0).wf = true) (hw2 : (Lit.int .u8 f0).wf = true) (hr : Kd.C k34 w A3 xs.length xs) (hc3 : xs.length ≤ c3) (hok : ∀ x ∈ xs, ActOk x) :
    Calls Try.prog 4 #[.int .u8 n0, .int .u8 wd0, .int .u8 f0, .slice A3 xs.length c3] w fun e w' => e = .returned (.bool true) ∧ Below w.heap.size w w' := by
  have h0 := bounds_u8 hw0
  have h1 := bounds_u8 hw1
  have h2 := bounds_u8 hw2
  clear hw0 hw1 hw2
  obtain ⟨n, rfl⟩ : ∃ n : Nat, n0 = n := ⟨n0.toNat, by omega⟩
  obtain ⟨wd, hwd⟩ : ∃ wd : Nat, 1 + wd0 % 64 = wd := ⟨(1 + wd0 % 64).toNat, by omega⟩
  obtain ⟨fs, hfs⟩ : ∃ fs : Nat, 1 + f0 % 8 = fs := ⟨(1 + f0 % 8).toNat, by omega⟩
  have hwd1 : 1 ≤ wd ∧ wd ≤ 64 := by omega
  have hn1 : n ≤ 255 := by omega
  have HC := Aside0.mk (show CfgOk n wd fs 8 by unfold CfgOk; omega)
  have HF := Aside0.mk (show ∀ W : World, Below w.heap.size w W → Calls Try.prog 11 #[.slice A3 xs.length c3] W fun e w' => FewPost xs.length w e w' from fun W hW => few_walk A3 c3 xs w W hr hW hok)
  have HR := Aside0.mk hr
  have HOK := Aside0.mk hok
  obtain ⟨l, hl⟩ : ∃ l, xs.length = l := ⟨_, rfl⟩
  rw [hl] at HR HF ⊢
  have HN := Aside0.mk hl
  clear hr hok hl hc3
  go_enter Try.func4, Try.ntmps4
  go_wp2_with (first
    | (go_at_call 8; refine (halftonelaw23_fixed.calls true _ rfl).mono ?_; rintro e w1 ⟨rfl, hb1⟩; have HB1 := Aside0.mk hb1; clear hb1)
    | (go_at_call 11; refine (HF.out _ HB1.out).mono ?_; rintro e w2 ⟨b, rfl, hb, hb2⟩; have HB2 := Aside0.mk hb2; clear hb2; rcases b with _ | _))
  · go_ret
    exact ⟨rfl, HB2.out⟩
  have hl201 : l ≤ 201 := by simpa using hb
  clear hb HF
  go_wp2_with (first
    | (go_at_call 9; refine (new_walk n wd fs 8 w2 HC.out).mono ?_; rintro e w3 ⟨g, rfl, hI3, hb3, hg3⟩; have HS := Aside0.mk (show St w w3 g ⟨n, wd, fs, 8⟩ 0 0 (.slice none 0 0) [] from ⟨hI3.low HB2.out.size, HB2.out.trans (hb3.mono HB2.out.size), Good.new HC.out, HC.out⟩); clear hI3 hb3 hg3))
  clear HB1 HB2
  go_loopw [43] (fun i wr => ∃ (k : Nat) (bs nw : Int) (vs : Value) (its : List S54), i = .int .i64 k ∧ k ≤ l ∧ Aside0 (nw ≤ k) ∧ Aside0 (St w wr g ⟨n, wd, fs, 8⟩ bs nw vs its)) (fun i _ => l - (intOf i).toNat)
  case atStart => exact ⟨0, _, _, _, _, rfl, Nat.zero_le _, ⟨by simp⟩, HS⟩
  case round =>
    clear HS
    obtain ⟨k, bs, nw, vs, its, rfl, hk, HNW, HS⟩ := hrel
    obtain ⟨wo, rfl⟩ : ∃ wo : World, wo = wr := ⟨_, rfl⟩
    by_cases hlt : k < l
    · obtain ⟨ad, Ar, cr, rfl, hx0, hx1, hx2, hcr, hC⟩ := k34_at HR.out k hlt
      have ho : ActOk (xs.getD k z34) := HOK.out _ (by rw [List.getD_eq_getElem?_getD, List.getElem?_eq_getElem (by rw [HN.out]; omega)]; simp)
      obtain ⟨⟨isA, next, rs⟩, hx⟩ : ∃ x, xs.getD k z34 = x := ⟨_, rfl⟩
      rw [hx] at hx0 hx1 hx2 hcr hC ho
      simp only at hx0 hx1 hx2 hcr hC
      obtain ⟨m, hm⟩ : ∃ m, rs.length = m := ⟨_, rfl⟩
      have HM := Aside0.mk hm
      rw [hm] at hx2 hcr
      replace hx0 := pw_cell_below HS.out.bl hx0
      replace hx1 := pw_cell_below HS.out.bl hx1
      replace hx2 := pw_cell_below HS.out.bl hx2
      have HCR := Aside0.mk hC
      have HO := Aside0.mk ho
      clear hx hm hC ho
      have hbs : 0 ≤ bs ∧ bs ≤ n := ⟨HS.out.ok.b0, by have h : bs + its.length ≤ (n : Int) := HS.out.ok.fit; omega⟩
      rcases isA with _ | _
      · obtain ⟨P, hP⟩ : ∃ P, tickL ⟨n, wd, fs, 8⟩ bs nw its = P := ⟨_, rfl⟩
        obtain ⟨L, hL⟩ : ∃ L, P.2.length = L := ⟨_, rfl⟩
        have ho := outs_order HS.out.ok
        rw [hP, hL] at ho
        obtain ⟨ho1, ho2, ho3⟩ := ho
        have hd1 : decide ((wd : Int) < L) = false := decide_eq_false (by have h : (L : Int) ≤ wd := ho1; omega)
        have hd1' : decide (wd < L) = false := decide_eq_false (by have h : (L : Int) ≤ wd := ho1; omega)
        have hd2 : (bs != bs) = false := by simp
        have hLm : L ≤ 64 := by have h : (L : Int) ≤ wd := ho1; omega
        have HO2 := Aside0.mk ho2
        have HO3 := Aside0.mk ho3
        have HLL := Aside0.mk hL
        have HTK := Aside0.mk (show ∀ W, St w W g ⟨n, wd, fs, 8⟩ bs nw vs its → _ from fun W h => h.tick (by have := HNW.out; omega) hP hL)
        clear ho1 ho2 ho3 hP hL
        go_wp2_with (first
          | (go_at_call 15; refine (HTK.out _ HS4.out).mono ?_; rintro e w5 ⟨A, cp, v1, rfl, hcp, hS5, hC5, hL5⟩; have HS5 := Aside0.mk hS5; have HC5 := Aside0.mk (Kd.R_reads' hC5).2.2; clear hS5 hC5 hL5)
          | (go_at_call 17; refine (base_walk _ HS5.out.sd).mono ?_; rintro e w6 ⟨rfl, hd6⟩; have HS6 := Aside0.mk (HS5.out.ext hd6.below); have HC6 := Aside0.mk (Kd.C_below HC5.out hd6.below); clear hd6)
          | (go_at_call 17; refine (base_walk _ (HS.out.alloc _).sd).mono ?_; rintro e w4 ⟨rfl, hd4⟩; have HS4 := Aside0.mk ((HS.out.alloc _).ext hd4.below); clear hd4))
        clear hx0 hx1 hx2 hd1 hd1'
        go_loopw [84] (fun i wr => ∃ j : Nat, i = .int .i64 j ∧ j ≤ L ∧ Aside0 (wr = w6)) (fun i _ => L - (intOf i).toNat)
        case atStart => exact ⟨0, rfl, Nat.zero_le _, ⟨rfl⟩⟩
        case round =>
          obtain ⟨j, rfl, hj, ⟨rfl⟩⟩ := hrel
          by_cases hlt2 : j < L
          · obtain ⟨ad2, rfl, hy⟩ := at_int (by have h := HC6.out; rw [HLL.out] at h; exact h) j hlt2
            obtain ⟨y1, y2, y3⟩ := HO2.out j hlt2
            have hprev : ∀ t, j = t + 1 → wr.cell? (ad2.add t) = some (.int .i64 (P.2.getD t 0)) ∧ P.2.getD t 0 < P.2.getD j 0 := fun t ht => by
              obtain ⟨ad3, e3, hz⟩ := at_int (by have h := HC6.out; rw [HLL.out] at h; exact h) t (by omega)
              obtain rfl := Option.some.inj e3
              exact ⟨hz, by rw [ht]; exact HO3.out t (by omega)⟩
            obtain ⟨y, hyy⟩ : ∃ y, P.2.getD j 0 = y := ⟨_, rfl⟩
            rw [hyy] at hy y1 y2 y3 hprev
            have e1 : decide (y < bs) = false := decide_eq_false (by omega)
            have e2 : decide (bs + (wd : Int) ≤ y) = false := decide_eq_false (by have h : y < bs + (wd : Int) := y2; omega)
            have e3 : decide ((n : Int) ≤ y) = false := decide_eq_false (by have h : y < (n : Int) := y3; omega)
            clear hyy y2 y3
            rcases j with _ | t
            · clear hprev
              have hy' : wr.cell? ad2 = some (.int .i64 y) := by simpa [Addr.add] using hy
              clear hy
              go_wp2
              exact ⟨⟨1, rfl, by omega, ⟨by first | rfl | trivial⟩⟩, by simp [intOf]; omega⟩
            · obtain ⟨hz, hzy⟩ := hprev t rfl
              obtain ⟨z, hzz⟩ : ∃ z, P.2.getD t 0 = z := ⟨_, rfl⟩
              rw [hzz] at hz hzy
              have e4 : decide (0 < ((t : Int) + 1)) = true := decide_eq_true (by omega)
              have e5 : decide (y ≤ z) = false := decide_eq_false (by omega)
              have hy' : wr.cell? ⟨ad2.block, ad2.off + (t + 1), none⟩ = some (.int .i64 y) := by simpa [Addr.add] using hy
              clear hprev hzz hy
              go_wp2
              exact ⟨⟨t + 1 + 1, by push_cast; rfl, by omega, ⟨by first | rfl | trivial⟩⟩, by simp [intOf]; omega⟩
          · obtain rfl : j = L := by omega
            go_wp2
            exact ⟨⟨k + 1, bs, nw + 1, _, _, by push_cast; rfl, by omega, ⟨by have := HNW.out; push_cast; omega⟩, HS6⟩, by simp [intOf]; omega⟩
      · obtain ⟨Q, hQ⟩ : ∃ Q, ackL bs nw its next rs = Q := ⟨_, rfl⟩
        have hb := ack_base HS.out.ok next rs
        rw [hQ] at hb
        have hd1 : decide (Q.1 < bs) = false := decide_eq_false (by omega)
        have hd2 : decide ((n : Int) < Q.1) = false := decide_eq_false (by have h : Q.1 ≤ (n : Int) := hb.2; omega)
        have HAK := Aside0.mk (show ∀ W, St w W g ⟨n, wd, fs, 8⟩ bs nw vs its → _ from fun W h => h.ack next HCR.out HO.out.2.2.2.2 HM.out hQ (c0 := cr))
        clear hb hQ
        go_wp2_with (first
          | (go_at_call 12; refine (HAK.out _ ((HS.out.alloc _).drewN nd4)).mono ?_; rintro e w5 ⟨v1, rfl, hS5, hL5⟩; have HS5 := Aside0.mk hS5; clear hS5 hL5)
          | (go_at_call 17; refine (base_walk _ (HS5.out.drewN nd6).sd).mono ?_; rintro e w7 ⟨rfl, ⟨nd7, rfl⟩⟩)
          | (go_at_call 17; refine (base_walk _ HS5.out.sd).mono ?_; rintro e w6 ⟨rfl, ⟨nd6, rfl⟩⟩)
          | (go_at_call 17; refine (base_walk _ (HS.out.alloc _).sd).mono ?_; rintro e w4 ⟨rfl, ⟨nd4, rfl⟩⟩))
        exact ⟨⟨k + 1, Q.1, nw, v1, Q.2, by push_cast; rfl, by omega, ⟨by have := HNW.out; push_cast; omega⟩, ⟨HS5.out.drewN _⟩⟩, by simp [intOf]; omega⟩
    · go_wp2
      go_ret
      exact ⟨rfl, HS.out.bl⟩
end Go.Proofs.Ytfmggodmhklfoaa.Lib
