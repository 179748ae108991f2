/- CanvasViews: the walk. -/
import Derived.Test.YtmeafgoifekffaaV17
namespace Go.Proofs.Ytmeafgoifekffaa.Lib
open Go.RowKit Go.Shelf Go.Proofs.YtmeafgoifekffaaW.PrintWords Go.Proofs.YtmeafgoifekffaaW.PrintLast Go.Proofs.YtmeafgoifekffaaW.PrintMore
attribute [local go_sem] max2_mx min2_mn max_two min_two
set_option linter.unusedVariables false
set_option linter.unusedSimpArgs false
set_option maxHeartbeats 4000000 in
set_option maxRecDepth 100000 in
theorem views_row (a b : Int) (wv : Bool) (A3 : Option Addr) (c3 : Nat) (xs : List S35) (w : World) (h0 : 0 ≤ a ∧ a ≤ 255) (h1 : 0 ≤ b ∧ b ≤ 255) (hr : Kd.C k35 w A3 xs.length xs) (hc3 : xs.length ≤ c3) (hok : ∀ x ∈ xs, LineOk x) :
    Calls Try.prog 3 #[.int .u8 a, .int .u8 b, .slice A3 xs.length c3, .bool wv] w fun e w' => e = .returned (.bool true) ∧ Below w.heap.size w w' := by
  obtain ⟨x, hx⟩ : ∃ x : Nat, 1 + a % 40 = x := ⟨(1 + a % 40).toNat, by omega⟩
  obtain ⟨y, hy⟩ : ∃ y : Nat, 1 + b % 40 = y := ⟨(1 + b % 40).toNat, by omega⟩
  have HC := Aside0.mk (show CvOk x y by
    have h2 : x * y ≤ 40 * 40 := Nat.mul_le_mul (by omega) (by omega)
    refine ⟨by omega, by omega, by omega, by omega, ?_⟩
    have h3 : ((x * y : Nat) : Int) = (x : Int) * y := by push_cast; rfl
    omega)
  have HF := Aside0.mk (show ∀ W : World, Below w.heap.size w W → Calls Try.prog 11 #[.slice A3 xs.length c3] W fun e w' => FewPost xs W e w' from fun W hW => few_walk A3 c3 xs w W hr hc3 hW hok)
  have HR := Aside0.mk hr
  obtain ⟨l, hl⟩ : ∃ l, xs.length = l := ⟨_, rfl⟩
  rw [hl] at HR HF ⊢
  have HN := Aside0.mk hl
  clear hr hok hl hc3
  go_enter Try.func3, Try.ntmps3
  go_wp2_with (first
    | (go_at_call 8; refine (halftonelaw19_fixed.calls true _ rfl).mono ?_; rintro e w1 ⟨rfl, hb1⟩; have HB1 := Aside0.mk hb1; clear hb1)
    | (go_at_call 9; refine (new_walk w.heap.size x y w1 HC.out HB1.out.size).mono ?_; rintro e w2 ⟨c, rfl, hcx, hcy, hI, hb2⟩; have HB2 := Aside0.mk (below_then HB1.out HB1.out.size hb2); have HI2 := Aside0.mk hI; have HCX := Aside0.mk hcx; have HCY := Aside0.mk hcy; clear hcx hcy hI hb2)
    | (go_at_call 10; refine (rnew_walk w.heap.size x y w2 HC.out HB2.out.size).mono ?_; rintro e w3 ⟨d, rfl, hdx, hdy, hI, hb3⟩; have HD3 := Aside0.mk (duo_new (w0 := w) w2 w3 x y c d (HI2.out.low HB1.out.size) HCX.out HCY.out HB2.out hI hdx hdy hb3); clear hdx hdy hI hb3)
    | (go_at_call 11; refine (HF.out _ HD3.out.bl).mono ?_; rintro e w4 ⟨b, rfl, hb, hb4⟩; have HD4 := Aside0.mk (HD3.out.ext hb4); clear hb4; rcases b with _ | _))
  · go_ret
    exact ⟨rfl, HD4.out.bl⟩
  have HFW := Aside0.mk (hb trivial)
  clear hb HF HI2 HB1 HB2 HD3
  have hl61 : l ≤ 61 := by rw [← HN.out]; exact HFW.out.1
  go_loopw [46] (fun i wr => ∃ (k : Nat) (ps : List S45) (ks : List Bool), i = .int .i64 k ∧ k ≤ l ∧ Aside0 (Duo w wr c d ps ks)) (fun i _ => l - (intOf i).toNat)
  case atStart => exact ⟨0, _, _, rfl, Nat.zero_le _, HD4⟩
  case round =>
    clear HD4
    obtain ⟨k, ps, ks, rfl, hk, HD⟩ := hrel
    obtain ⟨wo, rfl⟩ : ∃ wo : World, wo = wr := ⟨_, rfl⟩
    by_cases hlt : k < l
    · obtain ⟨ad, A1, c1, A2, c2, rfl, hx0, hx1, hx2, h3, h4, h5⟩ := k35_at HR.out k hlt
      obtain ⟨s1, s2⟩ := HFW.out.2 k (by rw [HN.out]; exact hlt)
      obtain ⟨⟨pass, spots, cols⟩, hx⟩ : ∃ v, xs.getD k z35 = v := ⟨_, rfl⟩
      rw [hx] at hx0 hx1 hx2 h3 h4 h5 s1 s2
      simp only at hx0 hx1 hx2 h3 h4 h5 s1 s2
      obtain ⟨n1, hn1⟩ : ∃ n1, spots.length = n1 := ⟨_, rfl⟩
      obtain ⟨m1, hm1⟩ : ∃ m1, cols.length = m1 := ⟨_, rfl⟩
      rw [hn1] at hx1 h3 h4 s1
      rw [hm1] at hx2 h5 s2
      have HCA := Aside0.mk (show Came w A1 A2 c1 n1 m1 spots cols from ⟨hn1, hm1, s1, h3, h4, h5⟩)
      replace hx0 := pw_cell_below HD.out.bl hx0
      replace hx1 := pw_cell_below HD.out.bl hx1
      replace hx2 := pw_cell_below HD.out.bl hx2
      clear hx hn1 hm1 h4 h5
      obtain ⟨P, hP⟩ : ∃ P, layL c.x c.y (cntL ks) ps ks spots cols = P := ⟨_, rfl⟩
      have HPP := Aside0.mk hP
      clear hP
      have hpp : (P.1 != P.1) = false := by simp
      have HT := Aside0.mk (HD.out.two #[.int .i64 pass, .slice A1 n1 c1, .slice A2 m1 c2])
      go_wp2
      clear hx0 hx1 hx2
      obtain ⟨wa, hwa⟩ : ∃ wa, wo.alloc (.cells #[.int .i64 pass, .slice A1 n1 c1, .slice A2 m1 c2] 35) = wa := ⟨_, rfl⟩
      rw [hwa] at HT ⊢
      clear hwa
      go_region_held3 (fun w' => w'.cell? ⟨wo.heap.size, 0, none⟩ = some (.int .i64 pass) ∧ w'.cell? ⟨wo.heap.size, 1, none⟩ = some (.slice A1 n1 c1) ∧ w'.cell? ⟨wo.heap.size, 2, none⟩ = some (.slice A2 m1 c2)) ((refine box3 ?_; repeat (first | exact HT7.out.box | exact HT6.out.box | exact HT.out.box | (with_reducible refine blk_drewN ?_ _) | (with_reducible refine blk_drew ?_)))) (first
        | (go_at_call 12; refine (Two.lay (w0 := w) (bx := wo.heap.size) (cells := #[.int .i64 pass, .slice A1 n1 c1, .slice A2 m1 c2]) (d := d) (qs := ps) (ls := ks) ?s1 HCA.out rfl pass c2 HPP.out).mono ?_; (case s1 => repeat (first | exact HT.out | (with_reducible refine Two.drewN ?_ _) | (with_reducible refine Two.drew ?_))); rintro e w6 ⟨rfl, h6⟩; have HT6 := Aside0.mk h6; clear h6)
        | (go_at_call 13; refine (Two.rlay (w0 := w) (bx := wo.heap.size) (cells := #[.int .i64 pass, .slice A1 n1 c1, .slice A2 m1 c2]) (c := c) (d := d) (cnt := P.2.1) (ps := P.2.2.1) (ks := P.2.2.2) (qs := ps) (ls := ks) ?s1 HCA.out (cntL ks) pass c2 HD.out.bo.ex HD.out.bo.ey HPP.out).mono ?_; (case s1 => repeat (first | exact HT6.out | (with_reducible refine Two.drewN ?_ _) | (with_reducible refine Two.drew ?_))); rintro e w7 ⟨rfl, h7⟩; have HT7 := Aside0.mk h7; clear h7))
      go_wp2
      have HD8 := Aside0.mk (Two.duo (w0 := w) (bx := wo.heap.size) (ks := ks) (ps := ps) HT7.out HD.out.bo.ex HD.out.bo.ey HD.out.bo.cv.lk.symm HD.out.bo.bk HPP.out)
      exact ⟨⟨k + 1, P.2.2.1, P.2.2.2, by push_cast; rfl, by omega, ⟨HD8.out.ext (by repeat (first | exact Below.refl _ _ | apply pw_below_drewN | apply below_drew))⟩⟩, by simp [intOf]; omega⟩
    · obtain rfl : k = l := by omega
      have HV := Aside0.mk (show ∀ W', Below wo.heap.size wo W' → Calls Try.prog 15 #[.pointer (some ⟨c.g, 0, none⟩), .bool wv] W' fun e w' => ∃ g cc, e = .returned (.agg #[.int .i64 c.x, .int .i64 c.y, .slice (some ⟨g, 0, none⟩) c.n cc]) ∧ c.n ≤ cc ∧ Kd.C k45 w' (some ⟨g, 0, none⟩) c.n (viewTo c.x c.y ps ks wv c.n) ∧ Below W'.heap.size W' w' from fun W' hb => by
        have h := HD.out.bo.cv.ext hb
        refine (view_walk h (by have := h.sz; exact Nat.mul_pos (by omega) (by omega)) wv).mono ?_
        rintro e w' ⟨g, cc, rfl, _, hR, hb2⟩
        obtain ⟨q1, q2, q3⟩ := Kd.R_reads' hR
        have hl : (viewTo c.x c.y ps ks wv c.n).length = c.n := by rw [viewTo_length]; exact h.lp.symm
        rw [hl] at q2 q3 ⊢
        exact ⟨g, cc, rfl, q2, q3, hb2⟩)
      have HW := Aside0.mk (show ∀ W', Below wo.heap.size wo W' → Calls Try.prog 16 #[.pointer (some ⟨d.g, 0, none⟩), .bool wv] W' fun e w' => ∃ g cc, e = .returned (.agg #[.int .i64 c.x, .int .i64 c.y, .slice (some ⟨g, 0, none⟩) c.n cc]) ∧ c.n ≤ cc ∧ Kd.C k45 w' (some ⟨g, 0, none⟩) c.n (viewTo c.x c.y ps ks wv c.n) ∧ Below W'.heap.size W' w' from fun W' hb => by
        have h := HD.out.bo.rc.ext hb
        have hcl := HD.out.bo.cv.lp
        refine (rview_walk h wv).mono ?_
        rw [HD.out.bo.en, HD.out.bo.ex, HD.out.bo.ey, ref_all (n := c.n) wv rfl HD.out.bo.bk (by have := HD.out.bo.cv.sz; omega) hcl.symm]
        rintro e w' ⟨g, cc, rfl, _, hR, hb2⟩
        obtain ⟨q1, q2, q3⟩ := Kd.R_reads' hR
        have hl : (viewTo c.x c.y ps ks wv c.n).length = c.n := by rw [viewTo_length]; exact hcl.symm
        rw [hl] at q2 q3 ⊢
        exact ⟨g, cc, rfl, q2, q3, hb2⟩)
      have HVL := Aside0.mk (show (viewTo c.x c.y ps ks wv c.n).length = c.n by rw [viewTo_length]; exact HD.out.bo.cv.lp.symm)
      have HCN := Aside0.mk (show c.n ≤ 4611686018427387904 by have := HD.out.bo.cv.sz; omega)
      go_wp2_with (first
        | (go_at_call 15; refine (HV.out _ (Below.refl _ _)).mono ?_; rintro e w5 ⟨g5, c5, rfl, hc5, hC5, hb5⟩; have HB5 := Aside0.mk hb5; have HC5 := Aside0.mk hC5; clear hb5 hC5)
        | (go_at_call 16; refine (HW.out _ HB5.out).mono ?_; rintro e w6 ⟨g6, c6, rfl, hc6, hC6, hb6⟩; have HB6 := Aside0.mk hb6; have HC6 := Aside0.mk hC6; clear hb6 hC6)
        | (go_at_call 14; refine (same_img _ c.x c.y _ HVL.out HCN.out _ _ _ _ (Kd.C_below HC5.out HB6.out) hc5 HC6.out hc6).mono ?_; rintro e w7 ⟨rfl, hb7⟩; have HB7 := Aside0.mk (below_then (below_then HB5.out HB5.out.size HB6.out) (Nat.le_trans HB5.out.size HB6.out.size) hb7); clear hb7))
      go_ret
      exact ⟨rfl, below_then HD.out.bl HD.out.bl.size HB7.out⟩
theorem views_said (a b : Int) (A3 : Option Addr) (c3 : Nat) (xs : List S35) (wv : Bool) (w : World) (hw0 : (Lit.int .u8 a).wf = true) (hw1 : (Lit.int .u8 b).wf = true) (hr : Kd.C k35 w A3 xs.length xs) (hc3 : xs.length ≤ c3)
    (h : xs.length ≤ 9223372036854775807 ∧ xs.length * 56 ≤ 140737488351232 ∧ ∀ x ∈ xs, (Lit.int .i64 x.f0).wf = true ∧ (x.f1.length ≤ 9223372036854775807 ∧ x.f1.length * 16 ≤ 140737488351232 ∧ ∀ r ∈ x.f1, (Lit.int .i64 r.f0).wf = true ∧ (Lit.int .i64 r.f1).wf = true) ∧ (x.f2.length ≤ 9223372036854775807 ∧ x.f2.length * 8 ≤ 140737488351232 ∧ ∀ r ∈ x.f2, (Lit.int .u16 r.f0).wf = true ∧ (Lit.int .u16 r.f1).wf = true ∧ (Lit.int .u16 r.f2).wf = true ∧ (Lit.int .u16 r.f3).wf = true)) :
    Calls Try.prog 3 #[.int .u8 a, .int .u8 b, .slice A3 xs.length c3, .bool wv] w fun e w' => e = .returned (.bool true) ∧ Below w.heap.size w w' :=
  views_row a b wv A3 c3 xs w (Go.bounds_u8 hw0) (Go.bounds_u8 hw1) hr hc3 (fun x hx => line_ok (h.2.2 x hx))
end Go.Proofs.Ytmeafgoifekffaa.Lib
