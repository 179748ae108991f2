/- the document's canvas: Lay: the walk. -/
import Derived.Test.YtmeafgoifekffaaV12
namespace Go.Proofs.Ytmeafgoifekffaa.Lib
open Go.RowKit Go.Shelf Go.Proofs.YtmeafgoifekffaaW.PrintWords Go.Proofs.YtmeafgoifekffaaW.PrintLast Go.Proofs.YtmeafgoifekffaaW.PrintMore
attribute [local go_sem high] eqA51
attribute [local go_sem] max2_mx min2_mn max_two min_two
set_option linter.unusedVariables false
set_option linter.unusedSimpArgs false
/-- the products by which a place is told -/
theorem place_nums {x y n : Nat} (hn : x * y = n) (hn2 : n ≤ 65536) (s : S51) (h : 0 ≤ plc x y s) : ∃ m p : Nat, s.f1 * (x : Int) = m ∧ (m : Int) + s.f0 = p ∧ plc x y s = p ∧ p < n ∧ m ≤ 65536 ∧ 0 ≤ s.f0 ∧ s.f0 ≤ 65536 := by
  unfold plc placeL at h ⊢
  by_cases h1 : 0 ≤ s.f0 ∧ s.f0 < x ∧ 0 ≤ s.f1 ∧ s.f1 < y
  · obtain ⟨q1, q2, q3⟩ := place_in hn h1
    rw [if_pos h1]
    exact ⟨(s.f1 * x).toNat, (s.f1 * x + s.f0).toNat, by omega, by omega, by omega, by omega, by omega, h1.1, by omega⟩
  · rw [if_neg h1] at h
    omega
theorem info51_ : (Try.prog.info? 51).map (fun i => (i.zero, i.size, i.bytes)) = some (some (.agg #[.int .i64 0, .int .i64 0]), 2, 16) := by kernel_rfl
set_option maxHeartbeats 4000000 in
set_option maxRecDepth 100000 in
theorem rlay_walk {W : World} {n₀ : Nat} {c : Cv} {ps : List S45} {ks : List Bool} (cnt : Nat) (h : IsRc W n₀ c ps ks) (hn₀ : n₀ ≤ W.heap.size) (pass : Int) (A1 A2 : Option Addr) (c1 c2 : Nat) (spots : List S51) (cols : List S45) {n : Nat} (hn : spots.length = n) (hm : cols.length = n) (hb : n ≤ 1000000) (hnc : n ≤ c1)
    (hs : ∀ W', Kept W W' c.S → Kd.C k51 W' A1 n spots) (hc : ∀ W', Kept W W' c.S → Kd.C k45 W' A2 n cols) :
    Calls Try.prog 13 #[.pointer (some ⟨c.g, 0, none⟩), .agg #[.int .i64 pass, .slice A1 n c1, .slice A2 n c2]] W fun e w' => RLayP W n₀ c (layL c.x c.y cnt ps ks spots cols) e w' := by
  have H := Aside0.mk h
  have HS := Aside0.mk hs
  have HC := Aside0.mk hc
  have HN := Aside0.mk hn
  have HM := Aside0.mk hm
  have HN0 := Aside0.mk hn₀
  have hd : ((n : Int) != (n : Int)) = false := by simp
  have hd2 : (n != n) = false := by simp
  obtain ⟨l, hl⟩ : ∃ l, spotsIn c.x c.y spots = l := ⟨_, rfl⟩
  have HLL := Aside0.mk hl
  have hll : l.length = n := by rw [← hl, spotsIn_length, hn]
  have HLN := Aside0.mk hll
  have hgl := h.lt
  have HLK := Aside0.mk h.lk
  have hcn := h.sz.2.2.2.2
  clear h hs hc hn hm hn₀ hl hll
  go_enter Try.func13, Try.ntmps13
  go_wp2
  have HR := Aside0.mk (show R2 W (W.alloc (.cells #[.int .i64 pass, .slice A1 n c1, .slice A2 n c2] 35)) n₀ c ps ks #[.int .i64 pass, .slice A1 n c1, .slice A2 n c2] from
    ⟨H.out.alloc _, Kept.of_below ((Below.refl _ _).alloc (Nat.le_refl _) _) _, (Below.refl _ _).alloc HN0.out _, heap_alloc_new W _, H.out.lt⟩)
  go_loopw [23] (fun i wr => ∃ k : Nat, i = .int .i64 k ∧ k ≤ n ∧ Aside0 (R2 W wr n₀ c ps ks #[.int .i64 pass, .slice A1 n c1, .slice A2 n c2]) ∧ Aside0 (∀ j, j < k → 0 ≤ plc c.x c.y (spots.getD j z51))) (fun i _ => n - (intOf i).toNat)
  case atStart => exact ⟨0, rfl, Nat.zero_le _, HR, ⟨fun j hj => absurd hj (Nat.not_lt_zero _)⟩⟩
  case round =>
    clear HR
    obtain ⟨k, rfl, hk, HR, HP⟩ := hrel
    by_cases hlt : k < n
    · obtain ⟨ad, rfl, hx0, hx1⟩ := k51_at (HS.out _ HR.out.kp) k hlt
      obtain ⟨s, hsd⟩ : ∃ s, spots.getD k z51 = s := ⟨_, rfl⟩
      rw [hsd] at hx0 hx1
      have HSD := Aside0.mk hsd
      clear hsd
      by_cases hin : 0 ≤ s.f0 ∧ s.f0 < c.x ∧ 0 ≤ s.f1 ∧ s.f1 < c.y
      · have HON := Aside0.mk (fun w' (hb : Below wr.heap.size wr w') => on_walk (HR.out.cv.ext hb) s.f0 s.f1 (decide_eq_true hin))
        have HPP := Aside0.mk (show 0 ≤ plc c.x c.y s from by unfold plc placeL; rw [if_pos hin]; exact (place_in (x := c.x) (y := c.y) rfl hin).2.1)
        clear hin
        go_wp2_with (go_at_call 27; refine (HON.out _ ((Below.refl _ _).alloc (Nat.le_refl _) _)).mono ?_; rintro e w' ⟨rfl, rfl⟩)
        exact ⟨⟨k + 1, by push_cast; rfl, by omega, ⟨HR.out.ext ((Below.refl _ _).alloc (Nat.le_refl _) _) HN0.out⟩, ⟨fun j hj => by
          rcases Nat.lt_or_ge j k with h1 | h1
          · exact HP.out j h1
          · obtain rfl : j = k := by omega
            rw [HSD.out]
            exact HPP.out⟩⟩, by simp [intOf]; omega⟩
      · have HON := Aside0.mk (fun w' (hb : Below wr.heap.size wr w') => on_walk (HR.out.cv.ext hb) s.f0 s.f1 (decide_eq_false hin))
        have HL := Aside0.mk (show layL c.x c.y cnt ps ks spots cols = (1, cnt, ps, ks) from if_pos (.inr (out_at (i := k) (by rw [HN.out]; exact hlt) (by rw [HSD.out]; unfold plc placeL; rw [if_neg hin]; decide))))
        clear hin
        go_wp2_with (go_at_call 27; refine (HON.out _ ((Below.refl _ _).alloc (Nat.le_refl _) _)).mono ?_; rintro e w' ⟨rfl, rfl⟩)
        go_ret
        unfold RLayP
        rw [HL.out]
        have hF := HR.out.ext ((Below.refl wr.heap.size wr).alloc (Nat.le_refl _) (.cells #[.int .i64 s.f0, .int .i64 s.f1] 51)) HN0.out
        exact ⟨rfl, hF.cv, hF.kp, hF.bl⟩
    · obtain rfl : k = n := by omega
      have hbs := blk_cell HR.out.bx 1
      go_wp2
      clear hbs
      go_loopw [38] (fun i wr => ∃ t : Nat, i = .int .i64 t ∧ t ≤ k ∧ Aside0 (R2 W wr n₀ c ps ks #[.int .i64 pass, .slice A1 k c1, .slice A2 k c2]) ∧ Aside0 (∀ j, j < t → (markL ks (l.take j)).getD (l.getD j 0) false = false)) (fun i _ => k - (intOf i).toNat)
      case atStart => exact ⟨0, rfl, Nat.zero_le _, HR, ⟨fun j hj => absurd hj (Nat.not_lt_zero _)⟩⟩
      case round =>
        clear HR
        obtain ⟨t, rfl, ht, HR, HQ⟩ := hrel
        obtain ⟨wo, rfl⟩ : ∃ wo : World, wo = wr := ⟨_, rfl⟩
        by_cases hlt2 : t < k
        · obtain ⟨ad, rfl, hx0, hx1⟩ := k51_at (HS.out _ HR.out.kp) t hlt2
          obtain ⟨s, hsd⟩ : ∃ s, spots.getD t z51 = s := ⟨_, rfl⟩
          rw [hsd] at hx0 hx1
          have HSD := Aside0.mk hsd
          obtain ⟨m, p, hm1, hm2, hm3, hp, hm4, hs0, hs1⟩ := place_nums (x := c.x) (y := c.y) (n := c.n) rfl hcn s (by rw [← hsd]; exact HP.out t hlt2)
          have HPD := Aside0.mk (show l.getD t 0 = p from by rw [← HLL.out, spotsIn_getD _ _ _ _ (by rw [HN.out]; exact hlt2), hsd, hm3]; simp)
          clear hsd hm3
          have hz : wr.heap.size < (wr.alloc (.cells #[.int .i64 s.f0, .int .i64 s.f1] 51)).heap.size := by simp
          obtain ⟨hm, hf⟩ := HR.out.cv.mark p hp
          have hc0 := blk_cell HR.out.cv.blk 0
          have hc3 := blk_cell HR.out.cv.blk 3
          have hb1 := blk_cell HR.out.bx 1
          have hzg := HR.out.cv.lt
          have hzb := blk_lt HR.out.bx
          have hw1 : IntKind.i64.wrap (m : Int) = m := wrapI (by omega) (by omega)
          have hw2 : IntKind.i64.wrap (p : Int) = p := wrapI (by omega) (by omega)
          have hp0 : (0 : Int) ≤ (p : Int) := by omega
          have hp1 : (p : Int) < (c.n : Int) := by omega
          have hp2 : (p : Int).toNat = p := by simp
          cases hmk : ks.getD p false with
          | true =>
            rw [hmk] at hm
            have HL := Aside0.mk (show layL c.x c.y cnt ps ks spots cols = (10, cnt, ps, ks) from by
              unfold layL
              rw [if_neg (by
                rw [HN.out, HM.out]
                rintro (h1 | h1)
                · exact h1 rfl
                · rw [out_none (fun j hj => HP.out j (by rw [HN.out] at hj; exact hj))] at h1
                  cases h1), if_pos]
              exact clash_known t (by rw [HN.out]; exact hlt2) (by rw [HLL.out, HPD.out]; exact hmk))
            clear hmk
            go_wp2
            go_quiet (fail)
            go_wp2
            go_ret
            unfold RLayP
            rw [HL.out]
            have hF := (HR.out.ext ((Below.refl wo.heap.size wo).alloc (Nat.le_refl _) (.cells #[.int .i64 s.f0, .int .i64 s.f1] 51)) HN0.out)
            have hF2 := hF.ext (pw_below_drewN (Below.refl _ _) nq) HN0.out
            exact ⟨rfl, hF2.cv, hF2.kp, hF2.bl⟩
          | false =>
            rw [hmk] at hm
            have HMK := Aside0.mk hmk
            clear hmk
            obtain ⟨i0, hi0, _⟩ := info_parts info51_
            have hcut := cut_to (P := Try.prog) 32 51 .i64 Try.underlying32 hi0 (some ad) k c1 (t : Int) (by omega) (by omega) hnc
            simp only [Int.toNat_natCast] at hcut
            clear hi0
            go_wp2
            go_quiet (fail)
            go_wp2
            clear hcut hm hf hc0 hc3 hb1 hx0 hx1 hw1 hw2 hm1 hm2
            have hB0 := (Below.refl wo.heap.size wo).alloc (Nat.le_refl _) (.cells #[.int .i64 s.f0, .int .i64 s.f1] 51)
            have HR3 := Aside0.mk ((HR.out.ext hB0 HN0.out).ext (pw_below_drewN (Below.refl _ _) nq) HN0.out)
            have HSB := Aside0.mk (blk_below (heap_alloc_new wo (.cells #[.int .i64 s.f0, .int .i64 s.f1] 51)) (pw_below_drewN (Below.refl _ _) nq))
            clear hB0
            go_loopw [64] (fun j wr => ∃ q : Nat, j = .int .i64 q ∧ q ≤ t ∧ Aside0 (R2 W wr n₀ c ps ks #[.int .i64 pass, .slice (some ad) k c1, .slice A2 k c2]) ∧ Aside0 (wr.heap[wo.heap.size]? = some (.cells #[.int .i64 s.f0, .int .i64 s.f1] 51 (0, 0))) ∧ Aside0 (∀ j, j < q → spots.getD t z51 ≠ spots.getD j z51)) (fun j _ => t - (intOf j).toNat)
            case atStart => exact ⟨0, rfl, Nat.zero_le _, HR3, HSB, ⟨fun j hj => absurd hj (Nat.not_lt_zero _)⟩⟩
            case round =>
              clear HR3 HSB
              obtain ⟨q, rfl, hq, HR3, HSB, HNE⟩ := hrel
              obtain ⟨w3, rfl⟩ : ∃ w3 : World, w3 = wr := ⟨_, rfl⟩
              have hg0 := blk_cell HSB.out 0
              have hg1 := blk_cell HSB.out 1
              have hgz := blk_lt HSB.out
              by_cases hlt3 : q < t
              · obtain ⟨ad', e', hy0, hy1⟩ := k51_at (HS.out _ HR3.out.kp) q (show q < k by omega)
                cases e'
                obtain ⟨s2, hsd2⟩ : ∃ s2, spots.getD q z51 = s2 := ⟨_, rfl⟩
                rw [hsd2] at hy0 hy1
                have HSD2 := Aside0.mk hsd2
                clear hsd2
                by_cases hss : s = s2
                · have HL := Aside0.mk (show layL c.x c.y cnt ps ks spots cols = (10, cnt, ps, ks) from by
                    unfold layL
                    rw [if_neg (by
                      rw [HN.out, HM.out]
                      rintro (h1 | h1)
                      · exact h1 rfl
                      · rw [out_none (fun j hj => HP.out j (by rw [HN.out] at hj; exact hj))] at h1
                        cases h1), if_pos]
                    exact clash_twice t q (by rw [HN.out]; exact hlt2) hlt3 (by rw [HLL.out, HPD.out, ← HLK.out]; exact hp) (by rw [HSD.out, HSD2.out, hss]))
                  have he0 : (s.f0 == s2.f0) = true := by rw [hss]; simp
                  have he1 : (s.f1 == s2.f1) = true := by rw [hss]; simp
                  clear hss
                  go_wp2
                  go_ret
                  unfold RLayP
                  rw [HL.out]
                  have hF := HR3.out.ext ((Below.refl w3.heap.size w3).alloc (Nat.le_refl _) (.cells #[.int .i64 s2.f0, .int .i64 s2.f1] 51)) HN0.out
                  exact ⟨rfl, hF.cv, hF.kp, hF.bl⟩
                · have he : (s.f0 == s2.f0 && s.f1 == s2.f1) = false := by
                    rw [Bool.eq_false_iff]
                    intro h1
                    rw [Bool.and_eq_true, beq_iff_eq, beq_iff_eq] at h1
                    apply hss
                    cases s
                    cases s2
                    simp only at h1
                    rw [h1.1, h1.2]
                  have HSS := Aside0.mk hss
                  clear hss
                  go_wp2
                  exact ⟨⟨q + 1, by push_cast; rfl, by omega, ⟨HR3.out.ext ((Below.refl _ _).alloc (Nat.le_refl _) _) HN0.out⟩, ⟨blk_below HSB.out ((Below.refl _ _).alloc (Nat.le_refl _) _)⟩, ⟨fun j hj => by
                    rcases Nat.lt_or_ge j q with h1 | h1
                    · exact HNE.out j h1
                    · obtain rfl : j = q := by omega
                      rw [HSD.out, HSD2.out]
                      exact HSS.out⟩⟩, by simp [intOf]; omega⟩
              · obtain rfl : q = t := by omega
                go_wp2
                exact ⟨⟨q + 1, by push_cast; rfl, by omega, HR3, ⟨fun j hj => by
                  rcases Nat.lt_or_ge j q with h1 | h1
                  · exact HQ.out j h1
                  · obtain rfl : j = q := by omega
                    have h2 := fresh_of (x := c.x) (y := c.y) (spots := spots) (ks := ks) (fun i hi => HP.out i (by rw [HN.out] at hi; exact hi)) j (by rw [HN.out]; exact hlt2) (by rw [HLL.out, HPD.out]; exact HMK.out) (fun i hi => HNE.out i hi)
                    rw [HLL.out] at h2
                    exact h2⟩⟩, by simp [intOf]; omega⟩
        · obtain rfl : t = k := by omega
          have HL := Aside0.mk (show layL c.x c.y cnt ps ks spots cols = (0, cnt + t, putL ps l cols, markL ks l) from by
            unfold layL
            rw [if_neg (by
              rw [HN.out, HM.out]
              rintro (h1 | h1)
              · exact h1 rfl
              · rw [out_none (fun j hj => HP.out j (by rw [HN.out] at hj; exact hj))] at h1
                cases h1), if_neg, HLL.out, HN.out]
            rw [HLL.out, clash_none (fun j hj => HQ.out j (by rw [HLN.out] at hj; exact hj))]
            simp)
          have hbs := blk_cell HR.out.bx 1
          go_wp2
          clear hbs
          go_loopw [76] (fun j wr => ∃ q : Nat, j = .int .i64 q ∧ q ≤ t ∧ Aside0 (R2 W wr n₀ c (putL ps (l.take q) (cols.take q)) (markL ks (l.take q)) #[.int .i64 pass, .slice A1 t c1, .slice A2 t c2])) (fun j _ => t - (intOf j).toNat)
          case atStart => exact ⟨0, rfl, Nat.zero_le _, HR⟩
          case round =>
            clear HR
            obtain ⟨q, rfl, hq, HR⟩ := hrel
            obtain ⟨w3, rfl⟩ : ∃ w3 : World, w3 = wr := ⟨_, rfl⟩
            by_cases hlt3 : q < t
            · obtain ⟨ad, rfl, hx0, hx1⟩ := k51_at (HS.out _ HR.out.kp) q hlt3
              obtain ⟨s, hsd⟩ : ∃ s, spots.getD q z51 = s := ⟨_, rfl⟩
              rw [hsd] at hx0 hx1
              have HSD := Aside0.mk hsd
              obtain ⟨m, p, hm1, hm2, hm3, hp, hm4, hs0, hs1⟩ := place_nums (x := c.x) (y := c.y) (n := c.n) rfl hcn s (by rw [← hsd]; exact HP.out q hlt3)
              have HPD := Aside0.mk (show l.getD q 0 = p from by rw [← HLL.out, spotsIn_getD _ _ _ _ (by rw [HN.out]; exact hlt3), hsd, hm3]; simp)
              clear hsd hm3
              have hw1 : IntKind.i64.wrap (m : Int) = m := wrapI (by omega) (by omega)
              have hw2 : IntKind.i64.wrap (p : Int) = p := wrapI (by omega) (by omega)
              have hp0 : (0 : Int) ≤ (p : Int) := by omega
              have hp1 : (p : Int) < (c.n : Int) := by omega
              have hp2 : (p : Int).toNat = p := by simp
              have HM1 := Aside0.mk hm1
              have HM2 := Aside0.mk hm2
              go_wp2
              clear hx0 hx1
              have hR4 := HR.out.ext ((Below.refl w3.heap.size w3).alloc (Nat.le_refl _) (.cells #[.int .i64 s.f0, .int .i64 s.f1] 51)) HN0.out
              have hbx := heap_alloc_new w3 (.cells #[.int .i64 s.f0, .int .i64 s.f1] 51)
              have hne := HR.out.cv.lt.2.2
              obtain ⟨w4, hw4⟩ : ∃ w4, w3.alloc (.cells #[.int .i64 s.f0, .int .i64 s.f1] 51) = w4 := ⟨_, rfl⟩
              rw [hw4] at hR4 hbx ⊢
              obtain ⟨hm, hf⟩ := hR4.cv.mark p hp
              have hc0 := blk_cell hR4.cv.blk 0
              have hc3 := blk_cell hR4.cv.blk 3
              have hs0' := blk_cell hbx 0
              have hs1' := blk_cell hbx 1
              have HR4 := Aside0.mk hR4
              have HBX := Aside0.mk hbx
              clear hw4 hR4 hbx
              go_still_tail 15, (by kernel_rfl)
              change wpList _ _ _ _ _ (World.drew _)
              go_wp2
              have hR5 := (HR4.out.mark p hp true).ext (below_drew (Below.refl _ _)) HN0.out
              have hbx5 := blk_below (blk_far HBX.out (p := ⟨c.gk, p, none⟩) (show w3.heap.size ≠ c.gk by omega) (.bool true)) (below_drew (Below.refl _ _))
              clear hm hf hc0 hc3 hs0' hs1'
              obtain ⟨w5, hw5⟩ : ∃ w5, (w4.setCell ⟨c.gk, p, none⟩ (.bool true)).drew = w5 := ⟨_, rfl⟩
              rw [hw5] at hR5 hbx5 ⊢
              obtain ⟨⟨ho0, ho1, ho2, ho3⟩, hof⟩ := hR5.cv.pixel p hp
              have hof0 : w5.frozen? ⟨c.gp, p * 4, none⟩ = false := hof 0
              have hof1 := hof 1
              have hof2 := hof 2
              have hof3 := hof 3
              have hc0 := blk_cell hR5.cv.blk 0
              have hc2 := blk_cell hR5.cv.blk 2
              have hb2 := blk_cell hR5.bx 2
              have hs0' := blk_cell hbx5 0
              have hs1' := blk_cell hbx5 1
              obtain ⟨ad2, rfl, hy0, hy1, hy2, hy3⟩ := k45_at (HC.out _ hR5.kp) q hlt3
              obtain ⟨px, hpx⟩ : ∃ px, cols.getD q z45 = px := ⟨_, rfl⟩
              rw [hpx] at hy0 hy1 hy2 hy3
              have HPX := Aside0.mk hpx
              have HR5 := Aside0.mk hR5
              clear hw5 hR5 hbx5 hof hpx
              go_still_tail 20, (by kernel_rfl)
              change wpList _ _ _ _ _ (World.drew _)
              go_wp2
              have HA := Aside0.mk ((HR5.out.pix p hp px).ext (below_drew (Below.refl _ _)) HN0.out)
              exact ⟨⟨q + 1, by push_cast; rfl, by omega, ⟨by rw [putL_snoc _ _ _ _ (by rw [HLN.out]; omega) (by rw [HM.out]; omega), markL_snoc _ _ _ (by rw [HLN.out]; omega), HPD.out, HPX.out]; exact HA.out⟩⟩, by simp [intOf]; omega⟩
            · obtain rfl : q = t := by omega
              have h1 := HR.out
              rw [List.take_of_length_le (by rw [HLN.out]; exact Nat.le_refl _), List.take_of_length_le (by rw [HM.out]; exact Nat.le_refl _)] at h1
              have HL4 := Aside0.mk h1
              clear h1 HR
              go_wp2
              go_ret
              unfold RLayP
              rw [HL.out]
              exact ⟨rfl, HL4.out.cv, HL4.out.kp, HL4.out.bl⟩
end Go.Proofs.Ytmeafgoifekffaa.Lib
