/- CanvasPlays: the walk. -/
import Derived.Test.YtmeafgoifekffaaA2
import Derived.OpenShut
namespace Go.Proofs.Ytmeafgoifekffaa.Lib
open Go.RowKit Go.Shelf Go.Proofs.YtmeafgoifekffaaW.PrintWords Go.Proofs.YtmeafgoifekffaaW.PrintLast Go.Proofs.YtmeafgoifekffaaW.PrintMore
attribute [local go_sem] max2_mx min2_mn max_two min_two
set_option linter.unusedVariables false
set_option linter.unusedSimpArgs false
theorem k35_at {w : World} {A : Option Addr} {n : Nat} {xs : List S35} (h : Kd.C k35 w A n xs) (i : Nat) (hi : i < n) : ∃ ad A1 c1 A2 c2, A = some ad ∧ w.cell? (ad.add (i * 3)) = some (.int .i64 (xs.getD i z35).f0) ∧ w.cell? ⟨(ad.add (i * 3)).block, (ad.add (i * 3)).off + 1, none⟩ = some (.slice A1 (xs.getD i z35).f1.length c1) ∧ w.cell? ⟨(ad.add (i * 3)).block, (ad.add (i * 3)).off + 2, none⟩ = some (.slice A2 (xs.getD i z35).f2.length c2) ∧ (xs.getD i z35).f1.length ≤ c1 ∧ k51.C w A1 (xs.getD i z35).f1.length (xs.getD i z35).f1 ∧ k45.C w A2 (xs.getD i z35).f2.length (xs.getD i z35).f2 := by
  obtain ⟨ad, A1, c1, A2, c2, e, h0, h1, h2, h3, h4, h5, h6⟩ := at_T35 h (i : Int) (by omega) (by omega)
  unfold rd_T35 at h0 h1 h2 h3 h4 h5 h6
  simp only [Int.toNat_natCast] at h0 h1 h2 h3 h4 h5 h6
  exact ⟨ad, A1, c1, A2, c2, e, h0, h1, h2, h3, h4, h6⟩
theorem box3 {W : World} {g : Nat} {a b e : Value} (h : W.heap[g]? = some (.cells #[a, b, e] 35 (0, 0))) : W.cell? ⟨g, 0, none⟩ = some a ∧ W.cell? ⟨g, 1, none⟩ = some b ∧ W.cell? ⟨g, 2, none⟩ = some e := ⟨blk_cell h 0, blk_cell h 1, blk_cell h 2⟩
set_option maxHeartbeats 4000000 in
set_option maxRecDepth 100000 in
theorem plays_bad (a b : Int) (A3 : Option Addr) (l c3 : Nat) (w : World) (h : ¬ CvOk a b) :
    Calls Try.prog 5 #[.int .i64 a, .int .i64 b, .slice A3 l c3] w fun e w' => e = .returned (.bool true) ∧ Below w.heap.size w w' := by
  have H := Aside0.mk h
  clear h
  go_enter Try.func5, Try.ntmps5
  go_wp2_with (first
    | (go_at_call 8; refine (halftonelaw19_fixed.calls true _ rfl).mono ?_; rintro e w1 ⟨rfl, hb1⟩; have HB1 := Aside0.mk hb1; clear hb1)
    | (go_at_call 9; refine (new_bad a b _ H.out).mono ?_; rintro e w2 ⟨rfl, rfl⟩)
    | (go_at_call 10; refine (rnew_bad a b _ H.out).mono ?_; rintro e w2 ⟨rfl, rfl⟩))
  go_ret
  exact ⟨rfl, HB1.out⟩
set_option maxHeartbeats 4000000 in
set_option maxRecDepth 100000 in
theorem plays_row (a b : Int) (A3 : Option Addr) (c3 : Nat) (xs : List S35) (w : World) (hr : Kd.C k35 w A3 xs.length xs) (hc3 : xs.length ≤ c3) (hok : ∀ x ∈ xs, LineOk x) :
    Calls Try.prog 5 #[.int .i64 a, .int .i64 b, .slice A3 xs.length c3] w fun e w' => e = .returned (.bool true) ∧ Below w.heap.size w w' := by
  by_cases hcv : CvOk a b
  case neg => exact plays_bad a b A3 _ c3 w hcv
  obtain ⟨x, rfl⟩ : ∃ x : Nat, a = x := ⟨a.toNat, by have := hcv.1; omega⟩
  obtain ⟨y, rfl⟩ : ∃ y : Nat, b = y := ⟨b.toNat, by have := hcv.2.2.1; omega⟩
  obtain ⟨n, hn⟩ : ∃ n : Nat, (x : Int) * (y : Int) = n := ⟨x * y, by push_cast; rfl⟩
  have hn2 : n ≤ 65536 := by have := hcv.2.2.2.2; omega
  have hwn : IntKind.i64.wrap (n : Int) = n := wrapI (by omega) (by omega)
  have HC := Aside0.mk hcv
  have HF := Aside0.mk (show ∀ W : World, Below w.heap.size w W → Calls Try.prog 11 #[.slice A3 xs.length c3] W fun e w' => FewPost xs W e w' from fun W hW => few_walk A3 c3 xs w W hr hc3 hW hok)
  have HR := Aside0.mk hr
  obtain ⟨l, hl⟩ : ∃ l, xs.length = l := ⟨_, rfl⟩
  rw [hl] at HR HF ⊢
  have HN := Aside0.mk hl
  clear hr hok hl hc3 hcv
  have HNN := Aside0.mk hn
  by_cases hbig : 2000 < (n : Int)
  · have hd := decide_eq_true hbig
    clear hbig
    go_enter Try.func5, Try.ntmps5
    go_wp2_with (first
      | (go_at_call 8; refine (halftonelaw19_fixed.calls true _ rfl).mono ?_; rintro e w1 ⟨rfl, hb1⟩; have HB1 := Aside0.mk hb1; clear hb1)
      | (go_at_call 9; refine (new_walk w.heap.size x y w1 HC.out HB1.out.size).mono ?_; rintro e w2 ⟨c, rfl, hcx, hcy, hI, hb2⟩; have HB2 := Aside0.mk (below_then HB1.out HB1.out.size hb2); clear hcx hcy hI hb2)
      | (go_at_call 10; refine (rnew_walk w.heap.size x y w2 HC.out HB2.out.size).mono ?_; rintro e w3 ⟨d, rfl, hdx, hdy, hI, hb3⟩; have HB3 := Aside0.mk (below_then HB2.out HB2.out.size hb3); clear hdx hdy hI hb3))
    go_ret
    exact ⟨rfl, HB3.out⟩
  have hd := decide_eq_false hbig
  clear hbig
  go_enter Try.func5, Try.ntmps5
  go_wp2_with (first
    | (go_at_call 8; refine (halftonelaw19_fixed.calls true _ rfl).mono ?_; rintro e w1 ⟨rfl, hb1⟩; have HB1 := Aside0.mk hb1; clear hb1)
    | (go_at_call 9; refine (new_walk w.heap.size x y w1 HC.out HB1.out.size).mono ?_; rintro e w2 ⟨c, rfl, hcx, hcy, hI, hb2⟩; have HB2 := Aside0.mk (below_then HB1.out HB1.out.size hb2); have HI2 := Aside0.mk hI; have HCX := Aside0.mk hcx; have HCY := Aside0.mk hcy; clear hcx hcy hI hb2)
    | (go_at_call 10; refine (rnew_walk w.heap.size x y w2 HC.out HB2.out.size).mono ?_; rintro e w3 ⟨d, rfl, hdx, hdy, hI, hb3⟩; have HD3 := Aside0.mk (duo_new (w0 := w) w2 w3 x y c d (HI2.out.low HB1.out.size) HCX.out HCY.out HB2.out hI hdx hdy hb3); clear hdx hdy hI hb3)
    | (go_at_call 11; refine (HF.out _ HD3.out.bl).mono ?_; rintro e w4 ⟨b, rfl, hb, hb4⟩; have HD4 := Aside0.mk (HD3.out.ext hb4); clear hb4; rcases b with _ | _))
  · go_ret
    exact ⟨rfl, HD4.out.bl⟩
  have HFW := Aside0.mk (hb trivial)
  clear hb HF hd hwn HI2 HB1 HB2 HD3
  have hl61 : l ≤ 61 := by rw [← HN.out]; exact HFW.out.1
  go_loopw [52] (fun i wr => ∃ (k : Nat) (ps : List S45) (ks : List Bool), i = .int .i64 k ∧ k ≤ l ∧ Aside0 (Duo w wr c d ps ks)) (fun i _ => l - (intOf i).toNat)
  case atStart => exact ⟨0, _, _, rfl, Nat.zero_le _, HD4⟩
  case round =>
    clear HD4
    obtain ⟨k, ps, ks, rfl, hk, HD⟩ := hrel
    obtain ⟨wo, rfl⟩ : ∃ wo : World, wo = wr := ⟨_, rfl⟩
    by_cases hlt : k < l
    · obtain ⟨ad, A1, c1, A2, c2, rfl, hx0, hx1, hx2, h3, h4, h5⟩ := k35_at HR.out k hlt
      obtain ⟨s1, s2⟩ := HFW.out.2 k (by rw [HN.out]; exact hlt)
      obtain ⟨⟨pass, spots, cols⟩, hx⟩ : ∃ v, xs.getD k z35 = v := ⟨_, rfl⟩
      rw [hx] at hx0 hx1 hx2 h3 h4 h5 s1 s2
      simp only at hx0 hx1 hx2 h3 h4 h5 s1 s2
      obtain ⟨n1, hn1⟩ : ∃ n1, spots.length = n1 := ⟨_, rfl⟩
      obtain ⟨m1, hm1⟩ : ∃ m1, cols.length = m1 := ⟨_, rfl⟩
      rw [hn1] at hx1 h3 h4 s1
      rw [hm1] at hx2 h5 s2
      have HCA := Aside0.mk (show Came w A1 A2 c1 n1 m1 spots cols from ⟨hn1, hm1, s1, h3, h4, h5⟩)
      replace hx0 := pw_cell_below HD.out.bl hx0
      replace hx1 := pw_cell_below HD.out.bl hx1
      replace hx2 := pw_cell_below HD.out.bl hx2
      clear hx hn1 hm1 h4 h5
      obtain ⟨P, hP⟩ : ∃ P, layL c.x c.y (cntL ks) ps ks spots cols = P := ⟨_, rfl⟩
      have HPP := Aside0.mk hP
      clear hP
      have hpp : (P.1 != P.1) = false := by simp
      have HT := Aside0.mk (HD.out.two #[.int .i64 pass, .slice A1 n1 c1, .slice A2 m1 c2])
      go_wp2
      clear hx0 hx1 hx2
      obtain ⟨wa, hwa⟩ : ∃ wa, wo.alloc (.cells #[.int .i64 pass, .slice A1 n1 c1, .slice A2 m1 c2] 35) = wa := ⟨_, rfl⟩
      rw [hwa] at HT ⊢
      clear hwa
      go_region_held3 (fun w' => w'.cell? ⟨wo.heap.size, 0, none⟩ = some (.int .i64 pass) ∧ w'.cell? ⟨wo.heap.size, 1, none⟩ = some (.slice A1 n1 c1) ∧ w'.cell? ⟨wo.heap.size, 2, none⟩ = some (.slice A2 m1 c2)) ((refine box3 ?_; repeat (first | exact HT8.out.box | exact HT7.out.box | exact HT6.out.box | exact HT.out.box | (with_reducible refine blk_drewN ?_ _) | (with_reducible refine blk_drew ?_)))) (first
        | (go_at_call 12; refine (Two.lay (w0 := w) (bx := wo.heap.size) (cells := #[.int .i64 pass, .slice A1 n1 c1, .slice A2 m1 c2]) (d := d) (qs := ps) (ls := ks) ?s1 HCA.out rfl pass c2 HPP.out).mono ?_; (case s1 => repeat (first | exact HT.out | (with_reducible refine Two.drewN ?_ _) | (with_reducible refine Two.drew ?_))); rintro e w6 ⟨rfl, h6⟩; have HT6 := Aside0.mk h6; clear h6)
        | (go_at_call 13; refine (Two.rlay (w0 := w) (bx := wo.heap.size) (cells := #[.int .i64 pass, .slice A1 n1 c1, .slice A2 m1 c2]) (c := c) (d := d) (cnt := P.2.1) (ps := P.2.2.1) (ks := P.2.2.2) (qs := ps) (ls := ks) ?s1 HCA.out (cntL ks) pass c2 HD.out.bo.ex HD.out.bo.ey HPP.out).mono ?_; (case s1 => repeat (first | exact HT6.out | (with_reducible refine Two.drewN ?_ _) | (with_reducible refine Two.drew ?_))); rintro e w7 ⟨rfl, h7⟩; have HT7 := Aside0.mk h7; clear h7)
        | (go_at_call 21; refine (same_walk (n₀ := w.heap.size) (c := c) (d := d) (cnt := cntL P.2.2.2) (ps := P.2.2.1) (ks := P.2.2.2) ?s1).mono ?_; (case s1 => refine (Two.duo (w0 := w) (bx := wo.heap.size) (cells := #[.int .i64 pass, .slice A1 n1 c1, .slice A2 m1 c2]) (ks := ks) (ps := ps) ?_ HD.out.bo.ex HD.out.bo.ey HD.out.bo.cv.lk.symm HD.out.bo.bk HPP.out).bo; repeat (first | exact HT7.out | (with_reducible refine Two.drewN ?_ _) | (with_reducible refine Two.drew ?_))); rintro e w8 ⟨rfl, h8⟩; have HT8 := Aside0.mk (HT7.out.ext h8); clear h8))
      go_wp2
      have HD8 := Aside0.mk (Two.duo (w0 := w) (bx := wo.heap.size) (ks := ks) (ps := ps) HT8.out HD.out.bo.ex HD.out.bo.ey HD.out.bo.cv.lk.symm HD.out.bo.bk HPP.out)
      exact ⟨⟨k + 1, P.2.2.1, P.2.2.2, by push_cast; rfl, by omega, ⟨HD8.out.ext (by repeat (first | exact Below.refl _ _ | apply pw_below_drewN | apply below_drew))⟩⟩, by simp [intOf]; omega⟩
    · obtain rfl : k = l := by omega
      go_wp2_with (first
        | (go_at_call 21; refine (same_walk (n₀ := w.heap.size) (c := c) (d := d) (cnt := cntL ks) (ps := ps) (ks := ks) HD.out.bo).mono ?_; rintro e w5 ⟨rfl, hb5⟩; have HD5 := Aside0.mk (HD.out.ext hb5); clear hb5))
      go_ret
      exact ⟨rfl, HD5.out.bl⟩
theorem line_ok {x : S35} (h : (Lit.int .i64 x.f0).wf = true ∧ (x.f1.length ≤ 9223372036854775807 ∧ x.f1.length * 16 ≤ 140737488351232 ∧ ∀ r ∈ x.f1, (Lit.int .i64 r.f0).wf = true ∧ (Lit.int .i64 r.f1).wf = true) ∧ (x.f2.length ≤ 9223372036854775807 ∧ x.f2.length * 8 ≤ 140737488351232 ∧ ∀ r ∈ x.f2, (Lit.int .u16 r.f0).wf = true ∧ (Lit.int .u16 r.f1).wf = true ∧ (Lit.int .u16 r.f2).wf = true ∧ (Lit.int .u16 r.f3).wf = true)) : LineOk x := by
  obtain ⟨h0, ⟨_, h1, _⟩, ⟨_, h2, _⟩⟩ := h
  have h3 := Go.bounds_i64 h0
  exact ⟨by omega, by omega, by omega, by omega⟩
theorem plays_said (a b : Int) (A3 : Option Addr) (c3 : Nat) (xs : List S35) (w : World) (_ : (Lit.int .i64 a).wf = true) (_ : (Lit.int .i64 b).wf = true) (hr : Kd.C k35 w A3 xs.length xs) (hc3 : xs.length ≤ c3)
    (h : xs.length ≤ 9223372036854775807 ∧ xs.length * 56 ≤ 140737488351232 ∧ ∀ x ∈ xs, (Lit.int .i64 x.f0).wf = true ∧ (x.f1.length ≤ 9223372036854775807 ∧ x.f1.length * 16 ≤ 140737488351232 ∧ ∀ r ∈ x.f1, (Lit.int .i64 r.f0).wf = true ∧ (Lit.int .i64 r.f1).wf = true) ∧ (x.f2.length ≤ 9223372036854775807 ∧ x.f2.length * 8 ≤ 140737488351232 ∧ ∀ r ∈ x.f2, (Lit.int .u16 r.f0).wf = true ∧ (Lit.int .u16 r.f1).wf = true ∧ (Lit.int .u16 r.f2).wf = true ∧ (Lit.int .u16 r.f3).wf = true)) :
    Calls Try.prog 5 #[.int .i64 a, .int .i64 b, .slice A3 xs.length c3] w fun e w' => e = .returned (.bool true) ∧ Below w.heap.size w w' :=
  plays_row a b A3 c3 xs w hr hc3 (fun x hx => line_ok (h.2.2 x hx))
end Go.Proofs.Ytmeafgoifekffaa.Lib
