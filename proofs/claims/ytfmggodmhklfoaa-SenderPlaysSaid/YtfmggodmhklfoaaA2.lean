/- SenderCalm: the walk. -/
import Derived.Test.YtfmggodmhklfoaaA1
namespace Go.Proofs.Ytfmggodmhklfoaa.Lib
open Go.RowKit Go.Shelf Go.Proofs.YtfmggodmhklfoaaW.PrintWords Go.Proofs.YtfmggodmhklfoaaW.PrintLast Go.Proofs.YtfmggodmhklfoaaW.PrintMore
set_option linter.unusedVariables false
set_option linter.unusedSimpArgs false
theorem at_int {w : World} {A : Option Addr} {n : Nat} {l : List Int} (h : Kd.C (Kd.int .i64) w A n l) (j : Nat) (hj : j < n) : ∃ ad, A = some ad ∧ w.cell? (ad.add j) = some (.int .i64 (l.getD j 0)) := by
  obtain ⟨ad, c, e, _, hK, hc⟩ := Kd.C_get h 0 (j : Int) (by omega) (by omega)
  have e1 : c = [.int .i64 (l.getD j 0)] := hK
  subst e1
  refine ⟨ad, e, ?_⟩
  have := hc 0 _ rfl
  rw [show (Kd.int .i64).sz = 1 from rfl] at this
  simpa using this
set_option maxHeartbeats 1000000 in
set_option maxRecDepth 100000 in
theorem calm_row (n0 wd0 : Int) (w : World) (hw0 : (Lit.int .u8 n0).wf = true) (hw1 : (Lit.int .u8 wd0).wf = true) :
    Calls Try.prog 6 #[.int .u8 n0, .int .u8 wd0] w fun e w' => e = .returned (.bool true) ∧ Below w.heap.size w w' := by
  have h0 := bounds_u8 hw0
  have h1 := bounds_u8 hw1
  obtain ⟨n, rfl⟩ : ∃ n : Nat, n0 = n := ⟨n0.toNat, by omega⟩
  obtain ⟨wd, hwd⟩ : ∃ wd : Nat, 1 + wd0 % 64 = wd := ⟨(1 + wd0 % 64).toNat, by omega⟩
  have hwd1 : 1 ≤ wd ∧ wd ≤ 64 := by omega
  have hn1 : n ≤ 255 := by omega
  have HC := Aside0.mk (show CfgOk n wd 1 8 by unfold CfgOk; omega)
  obtain ⟨R, hR⟩ : ∃ R, (n + wd - 1) / wd = R := ⟨_, rfl⟩
  have HLT := Aside0.mk (show ∀ k, k < R → calmN n wd k < n ∧ calmN n wd (k + 1) = calmN n wd k + min wd (n - calmN n wd k) from fun k hk => calmN_lt n wd k hwd1.1 (by omega))
  have HEND := Aside0.mk (show calmN n wd R = n from hR ▸ calmN_end n wd hwd1.1)
  have hRI : ((n : Int) + wd - 1) / wd = R := by
    rw [← hR]
    push_cast
    rw [Int.natCast_sub (by omega)]
    push_cast
    rfl
  have HR1 := Aside0.mk (show R ≤ 1000 by rw [← hR]; exact Nat.le_trans (Nat.div_le_self _ _) (by omega))
  go_enter Try.func6, Try.ntmps6
  go_wp2_with (first
    | (go_at_call 8; refine (halftonelaw23_fixed.calls true _ rfl).mono ?_; rintro e w1 ⟨rfl, hb1⟩)
    | (go_at_call 9; refine (new_walk n wd 1 8 w1 HC.out).mono ?_; rintro e w2 ⟨g, rfl, hI2, hb2, hg2⟩; have HI := Aside0.mk (hI2.low hb1.size); have HB := Aside0.mk (hb1.trans (hb2.mono hb1.size)); clear hI2 hb2 hg2 hb1))
  rw [hRI]
  clear hRI hR
  go_loopw [33, 8] (fun i nx wr => ∃ (k : Nat) (q : Nat) (vs : Value), i = .int .i64 k ∧ nx = .int .i64 q ∧ k ≤ R ∧ Aside0 (calmN n wd k = q) ∧ Aside0 (IsSd wr w.heap.size g ⟨n, wd, 1, 8⟩ q k vs []) ∧ Aside0 (Below w.heap.size w wr)) (fun i _ _ => R - (intOf i).toNat)
  case atStart => exact ⟨0, 0, _, rfl, rfl, Nat.zero_le _, ⟨by simp [calmN]⟩, ⟨HI.out⟩, ⟨HB.out⟩⟩
  case round =>
    clear HI HB
    obtain ⟨k, q, vs, rfl, rfl, hk, HQ, HI, HB⟩ := hrel
    by_cases hlt : k < R
    · obtain ⟨hq1, hq2⟩ := HLT.out k hlt
      rw [HQ.out] at hq1 hq2
      obtain ⟨m, hm⟩ : ∃ m, min wd (n - q) = m := ⟨_, rfl⟩
      rw [hm] at hq2
      have hm1 : 1 ≤ m ∧ m ≤ 64 ∧ q + m ≤ n := by omega
      have hmn : (mn (wd : Int) ((n : Int) - q)).toNat = m := by unfold mn; split <;> omega
      have hd : ((q : Int) == (n : Int)) = false := by simp; omega
      have hT := calm_tick ⟨n, wd, 1, 8⟩ q k
      simp only [hmn] at hT
      have HT := Aside0.mk hT
      have HR1k := HR1.out
      have HGP := Aside0.mk (show ∀ j, 0 ≤ (([] : List S54).getD j z54).f2 ∧ (([] : List S54).getD j z54).f2 ≤ 65536 from fun j => by simp [z54])
      have HQ2 := Aside0.mk hq2
      have hm64 := hm1.2.1
      have hmq := hm1.2.2
      clear hT hmn hm hq2
      obtain ⟨wo, rfl⟩ : ∃ wo : World, wo = wr := ⟨_, rfl⟩
      have HTK := Aside0.mk (show ∀ nd : Nat, _ from fun nd => tick_st (HI.out.drewN nd) (pw_below_drewN HB.out nd) HC.out (by omega) (by omega) (by simp) HGP.out HT.out (L := m) (by simp))
      go_wp2_with (first
        | (go_at_call 21; refine (done_walk _ HI.out).mono ?_; rintro e w3 ⟨rfl, ⟨nd3, rfl⟩⟩; rw [hd])
        | (go_at_call 15; refine (HTK.out nd3).mono ?_; rintro e w4 ⟨A, cp, v1, rfl, hcp, hI4, ho4, hL4, hb4⟩; have HI4 := Aside0.mk hI4; have HB4 := Aside0.mk hb4; have hC4 := (Kd.R_reads' ho4).2.2; rw [List.length_map, List.length_range] at hC4; have HC4 := Aside0.mk hC4; clear hC4; clear hI4 hb4 ho4 hL4))
      go_loopw [40, 8] (fun j nx wr => ∃ t : Nat, j = .int .i64 t ∧ nx = .int .i64 ((q : Int) + t) ∧ t ≤ m ∧ Aside0 (wr = w4)) (fun j _ _ => m - (intOf j).toNat)
      case atStart => exact ⟨0, rfl, by simp, Nat.zero_le _, ⟨rfl⟩⟩
      case round =>
        obtain ⟨t, rfl, rfl, ht, ⟨rfl⟩⟩ := hrel
        by_cases hlt2 : t < m
        · obtain ⟨ad, rfl, hx⟩ := at_int HC4.out t hlt2
          have hg : ((List.range m).map fun t : Nat => (q : Int) + (t : Int)).getD t 0 = (q : Int) + t := by
            rw [List.getD_eq_getElem?_getD]
            simp [hlt2]
          rw [hg] at hx
          have hd2 : ((q : Int) + t != (q : Int) + t) = false := by simp
          clear hd
          go_wp2
          exact ⟨⟨t + 1, by push_cast; rfl, by push_cast; rw [Int.add_assoc], by omega, ⟨by first | rfl | trivial⟩⟩, by simp [intOf]; omega⟩
        · have et : t = m := by omega
          subst et
          have HAK := Aside0.mk (calm_ack (q := (q : Int) + t) HI4.out HB4.out (by omega) (by omega) rfl)
          go_wp2_with (first
            | (go_at_call 12; refine HAK.out.mono ?_; rintro e w5 ⟨v5, rfl, hI5, hb5⟩; have HI5 := Aside0.mk hI5; have HB5 := Aside0.mk hb5; clear hI5 hb5))
          exact ⟨⟨k + 1, q + t, _, by push_cast; rfl, by push_cast; rfl, by omega, HQ2, ⟨by push_cast; exact HI5.out⟩, HB5⟩, by simp [intOf]; omega⟩
    · have ek : k = R := by omega
      subst ek
      have eq : q = n := HQ.out.symm.trans HEND.out
      subst eq
      have hd : ((q : Int) == (q : Int)) = true := by simp
      obtain ⟨wo, rfl⟩ : ∃ wo : World, wo = wr := ⟨_, rfl⟩
      go_wp2_with (first
        | (go_at_call 21; refine (done_walk _ HI.out).mono ?_; rintro e w3 ⟨rfl, ⟨nd3, rfl⟩⟩; rw [hd])
        | (go_at_call 19; refine (flight_walk _ (HI.out.drewN nd3) (by simp)).mono ?_; rintro e w4 ⟨rfl, hb4⟩))
      go_ret
      exact ⟨rfl, below_then (pw_below_drewN HB.out nd3) (by simpa using HB.out.size) hb4⟩
end Go.Proofs.Ytfmggodmhklfoaa.Lib
