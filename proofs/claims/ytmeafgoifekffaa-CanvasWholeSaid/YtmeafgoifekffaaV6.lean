/- canvas: Lay: walked by hand. -/
import Derived.Test.YtmeafgoifekffaaV5
import Derived.StillTailTactics
namespace Go.Proofs.Ytmeafgoifekffaa.Lib
open Go.RowKit Go.Proofs.YtmeafgoifekffaaW.PrintWords Go.Proofs.YtmeafgoifekffaaW.PrintLast Go.Proofs.YtmeafgoifekffaaW.PrintMore
attribute [local go_sem] max2_mx min2_mn max_two min_two
set_option linter.unusedVariables false
set_option linter.unusedSimpArgs false
set_option maxRecDepth 100000 in
theorem lay_nil (pass : Int) (A1 A2 : Option Addr) (n1 c1 n2 c2 : Nat) (W : World) :
    Calls Try.prog 12 #[.pointer none, .agg #[.int .i64 pass, .slice A1 n1 c1, .slice A2 n2 c2]] W fun e w' => e = .returned (.int .i64 1) ∧ Below W.heap.size W w' := by
  go_enter Try.func12, Try.ntmps12
  go_wp2
  go_ret
  exact ⟨rfl, (Below.refl _ _).alloc (Nat.le_refl _) _⟩
set_option maxRecDepth 100000 in
theorem lay_len {W : World} {n₀ : Nat} {c : Cv} {cnt : Nat} {ps : List S45} {ks : List Bool} (h : IsCv W n₀ c cnt ps ks) (hn₀ : n₀ ≤ W.heap.size) (pass : Int) (A1 A2 : Option Addr) (c1 c2 : Nat) (spots : List S51) (cols : List S45) {n m : Nat} (hn : spots.length = n) (hm : cols.length = m) (hne : n ≠ m) :
    Calls Try.prog 12 #[.pointer (some ⟨c.g, 0, none⟩), .agg #[.int .i64 pass, .slice A1 n c1, .slice A2 m c2]] W fun e w' => LayP W n₀ c (layL c.x c.y cnt ps ks spots cols) e w' := by
  have HL := Aside0.mk (show layL c.x c.y cnt ps ks spots cols = (1, cnt, ps, ks) from if_pos (.inl (by omega)))
  have H := Aside0.mk h
  have hd : ((n : Int) != (m : Int)) = true := by simp; omega
  have hd2 : (n != m) = true := by simpa using hne
  clear h hn hm hne
  go_enter Try.func12, Try.ntmps12
  go_wp2
  go_ret
  unfold LayP
  rw [HL.out]
  exact ⟨rfl, H.out.alloc _, Kept.of_below ((Below.refl _ _).alloc (Nat.le_refl _) _) _, (Below.refl _ _).alloc hn₀ _⟩
set_option maxHeartbeats 2000000 in
set_option maxRecDepth 100000 in
theorem lay_walk {W : World} {n₀ : Nat} {c : Cv} {cnt : Nat} {ps : List S45} {ks : List Bool} (h : IsCv W n₀ c cnt ps ks) (hn₀ : n₀ ≤ W.heap.size) (pass : Int) (A1 A2 : Option Addr) (c1 c2 : Nat) (spots : List S51) (cols : List S45) {n : Nat} (hn : spots.length = n) (hm : cols.length = n) (hb : n ≤ 1000000) (hcnt : cnt ≤ 1000000)
    (hs : ∀ W', Kept W W' c.S → Kd.C k51 W' A1 n spots) (hc : ∀ W', Kept W W' c.S → Kd.C k45 W' A2 n cols) :
    Calls Try.prog 12 #[.pointer (some ⟨c.g, 0, none⟩), .agg #[.int .i64 pass, .slice A1 n c1, .slice A2 n c2]] W fun e w' => LayP W n₀ c (layL c.x c.y cnt ps ks spots cols) e w' := by
  have H := Aside0.mk h
  have HS := Aside0.mk hs
  have HC := Aside0.mk hc
  have HN := Aside0.mk hn
  have HM := Aside0.mk hm
  have HN0 := Aside0.mk hn₀
  have hd : ((n : Int) != (n : Int)) = false := by simp
  have hd2 : (n != n) = false := by simp
  have hk3 := make3 n hb
  obtain ⟨l, hl⟩ : ∃ l, spotsIn c.x c.y spots = l := ⟨_, rfl⟩
  have HLL := Aside0.mk hl
  have hll : l.length = n := by rw [← hl, spotsIn_length, hn]
  have HLN := Aside0.mk hll
  have hgl := h.lt
  clear h hs hc hn hm hn₀ hl hll
  go_enter Try.func12, Try.ntmps12
  go_wp2
  clear hk3
  have HL1 := Aside0.mk (show L1 W ((W.alloc (.cells #[.int .i64 pass, .slice A1 n c1, .slice A2 n c2] 35)).alloc (.cells (madeCells #[.int .i64 0] n) 3)) #[.int .i64 pass, .slice A1 n c1, .slice A2 n c2] (.slice (some ⟨W.heap.size + 1, 0, none⟩) 0 n) [] from
    ⟨((Below.refl _ _).alloc (Nat.le_refl _) _).alloc (by simp) _, blk_below (heap_alloc_new W _) ((Below.refl _ _).alloc (Nat.le_refl _) _), by
      have h1 := made3 n hb (W.alloc (.cells #[.int .i64 pass, .slice A1 n c1, .slice A2 n c2] 35)) W.heap.size (by simp)
      simpa using h1⟩)
  go_loopw [5, 33] (fun v i wr => ∃ (k : Nat) (u : Value), u = v ∧ i = .int .i64 k ∧ k ≤ n ∧ Aside0 (L1 W wr #[.int .i64 pass, .slice A1 n c1, .slice A2 n c2] u ((l.take k).map Int.ofNat)) ∧ Aside0 (∀ j, j < k → 0 ≤ plc c.x c.y (spots.getD j z51))) (fun _ i _ => n - (intOf i).toNat)
  case atStart => exact ⟨0, _, rfl, rfl, Nat.zero_le _, HL1, ⟨fun j hj => absurd hj (Nat.not_lt_zero _)⟩⟩
  case round =>
    clear HL1
    obtain ⟨k, u, rfl, rfl, hk, HL1, HP⟩ := hrel
    by_cases hlt : k < n
    · obtain ⟨ad, rfl, hx0, hx1⟩ := k51_at (HS.out _ (Kept.of_below HL1.out.bl _)) k hlt
      obtain ⟨s, hsd⟩ : ∃ s, spots.getD k z51 = s := ⟨_, rfl⟩
      rw [hsd] at hx0 hx1
      have HSD := Aside0.mk hsd
      clear hsd
      rcases placeL_cases c.x c.y c.n rfl s.f0 s.f1 with e | ⟨p, e, hp⟩
      · have HPE := Aside0.mk e
        have HL := Aside0.mk (show layL c.x c.y cnt ps ks spots cols = (1, cnt, ps, ks) from if_pos (.inr (out_at (i := k) (by rw [HN.out]; exact hlt) (by rw [HSD.out]; show placeL _ _ _ _ < 0; rw [e]; decide))))
        clear e
        go_wp2_with (go_at_call 26; refine (place_walk ((H.out.ext HL1.out.bl).alloc _) s.f0 s.f1).mono ?_; rw [HPE.out]; rintro e w' ⟨rfl, rfl⟩)
        go_ret
        unfold LayP
        rw [HL.out]
        have hB := (HL1.out.alloc (.cells #[.int .i64 s.f0, .int .i64 s.f1] 51)).bl
        exact ⟨rfl, H.out.ext hB, Kept.of_below hB _, hB.mono HN0.out⟩
      · have HPE := Aside0.mk e
        have HPL := Aside0.mk hp
        have HPK := Aside0.mk (show plc c.x c.y (spots.getD k z51) = p from by rw [HSD.out]; exact e)
        clear e hp
        go_wp2_with (first
          | (go_at_call 26; refine (place_walk ((H.out.ext HL1.out.bl).alloc _) s.f0 s.f1).mono ?_; rw [HPE.out]; rintro e w' ⟨rfl, rfl⟩)
          | (at_builtin; go_loud (refine Kd.R_append (Kd.int .i64) (w0 := W) W.heap.size rfl (.tmp 45) (.tmp 47) 68 3 (.int .i64 0) 8 rfl Try.underlying68 info3_ rfl (by decide) (by omega) u ((l.take k).map Int.ofNat) p [.int .i64 p] (fun k' => W.heap.size ≤ k') (fun _ => False) rfl ?s0 rfl (fun _ hk => hk.elim) ?s1 (HL1.out.alloc _).row (HL1.out.alloc _).bl ?s2 ?s3 ?_; (case s0 => (rw [World.size_alloc]; rfl)); (case s1 => exact fun k' hk' => Nat.le_trans (HL1.out.alloc _).bl.size hk'); (case s2 => exact (HL1.out.alloc _).bl.size); (case s3 => simp; omega); intro v1 w1 ho1 hb1 hg1 hat1)))
        have HA := Aside0.mk ((HL1.out.alloc (.cells #[.int .i64 s.f0, .int .i64 s.f1] 51)).app ho1 hb1 hg1)
        clear ho1 hb1 hg1 hat1
        have HTK := Aside0.mk (show (l.take k).map Int.ofNat ++ [(p : Int)] = (l.take (k + 1)).map Int.ofNat from by
          rw [take_snoc_nat l k (by rw [HLN.out]; exact hlt), List.map_append, List.map_singleton, ← HLL.out, spotsIn_getD _ _ _ _ (by rw [HN.out]; exact hlt), HPK.out]
          simp)
        exact ⟨⟨k + 1, v1, rfl, by push_cast; rfl, by omega, ⟨HTK.out ▸ HA.out⟩, ⟨fun j hj => by
          rcases Nat.lt_or_ge j k with h1 | h1
          · exact HP.out j h1
          · obtain rfl : j = k := by omega
            rw [HPK.out]
            omega⟩⟩, by simp [intOf]; omega⟩
    · obtain rfl : k = n := by omega
      have HT : l.take k = l := List.take_of_length_le (by rw [HLN.out]; exact Nat.le_refl _)
      have h1 := HL1.out
      rw [HT] at h1
      clear HT
      obtain ⟨Ap, cpp, e, hcp, _⟩ := Kd.R_reads h1.row
      rw [List.length_map, HLN.out] at e hcp
      subst e
      have HL2 := Aside0.mk (h1.two H.out HN0.out)
      clear h1 HL1
      go_wp2
      go_loopw [52] (fun i wr => ∃ t : Nat, i = .int .i64 t ∧ t ≤ k ∧ Aside0 (L2 W wr n₀ c cnt ps (markL ks (l.take t)) #[.int .i64 pass, .slice A1 k c1, .slice A2 k c2] (.slice Ap k cpp) (l.map Int.ofNat)) ∧ Aside0 (∀ j, j < t → (markL ks (l.take j)).getD (l.getD j 0) false = false)) (fun i _ => k - (intOf i).toNat)
      case atStart => exact ⟨0, rfl, Nat.zero_le _, HL2, ⟨fun j hj => absurd hj (Nat.not_lt_zero _)⟩⟩
      case round =>
        clear HL2
        obtain ⟨t, rfl, ht, HL2, HQ⟩ := hrel
        obtain ⟨wo, rfl⟩ : ∃ wo : World, wo = wr := ⟨_, rfl⟩
        by_cases hlt2 : t < k
        · obtain ⟨ad, rfl, hx⟩ := nat_at (by have h1 := (Kd.R_reads' HL2.out.row).2.2; rw [List.length_map, HLN.out] at h1; exact h1) t hlt2
          obtain ⟨p, hpd⟩ : ∃ p, l.getD t 0 = p := ⟨_, rfl⟩
          rw [hpd] at hx
          have HPD := Aside0.mk hpd
          have hp : p < c.n := by
            rw [← hpd, ← HLL.out, spotsIn_getD _ _ _ _ (by rw [HN.out]; exact hlt2)]
            exact plc_lt rfl _ (HP.out t hlt2)
          have hc4 := blk_cell HL2.out.cv.blk 4
          obtain ⟨hm, hf⟩ := HL2.out.cv.mark p hp
          clear hpd
          cases hmk : (markL ks (l.take t)).getD p false with
          | true =>
            rw [hmk] at hm
            have HL := Aside0.mk (show layL c.x c.y cnt ps ks spots cols = (10, cnt, ps, ks) from by
              unfold layL
              rw [if_neg (by
                rw [HN.out, HM.out]
                rintro (h1 | h1)
                · exact h1 rfl
                · rw [out_none (fun j hj => HP.out j (by rw [HN.out] at hj; exact hj))] at h1
                  cases h1), if_pos]
              rw [HLL.out]
              exact clash_at (i := t) (by rw [HLN.out]; exact hlt2) (by rw [HPD.out]; exact hmk))
            obtain ⟨i0, hi0, _⟩ := info_parts info3_
            have hcut := cut_to (P := Try.prog) 68 3 .i64 Try.underlying68 hi0 (some ad) k cpp (t : Int) (by omega) (by omega) hcp
            simp only [Int.toNat_natCast] at hcut
            clear hmk hi0
            go_wp2
            clear hcut hm hf hc4 hx
            go_loopw [68] (fun j wr => ∃ q : Nat, j = .int .i64 q ∧ q ≤ t ∧ Aside0 (L2 W wr n₀ c cnt ps (unmarkL (markL ks (l.take t)) (l.take q)) #[.int .i64 pass, .slice A1 k c1, .slice A2 k c2] (.slice (some ad) k cpp) (l.map Int.ofNat))) (fun j _ => t - (intOf j).toNat)
            case atStart => exact ⟨0, rfl, Nat.zero_le _, HL2⟩
            case round =>
              obtain ⟨q, rfl, hq, HL3⟩ := hrel
              by_cases hlt3 : q < t
              · obtain ⟨ad', e', hx⟩ := nat_at (by have h1 := (Kd.R_reads' HL3.out.row).2.2; rw [List.length_map, HLN.out] at h1; exact h1) q (show q < k by omega)
                cases e'
                obtain ⟨p2, hpd⟩ : ∃ p2, l.getD q 0 = p2 := ⟨_, rfl⟩
                rw [hpd] at hx
                have HPD2 := Aside0.mk hpd
                have hp2 : p2 < c.n := by
                  rw [← hpd, ← HLL.out, spotsIn_getD _ _ _ _ (by rw [HN.out]; omega)]
                  exact plc_lt rfl _ (HP.out q (by omega))
                have hc4 := blk_cell HL3.out.cv.blk 4
                obtain ⟨hm, hf⟩ := HL3.out.cv.mark p2 hp2
                clear hpd
                go_wp2
                have HA := Aside0.mk (HL3.out.mark p2 hp2 false)
                exact ⟨⟨q + 1, by push_cast; rfl, by omega, ⟨by rw [unmarkL_snoc _ _ _ (by rw [HLN.out]; omega), HPD2.out]; exact HA.out⟩⟩, by simp [intOf]; omega⟩
              · obtain rfl : q = t := by omega
                go_wp2
                go_ret
                unfold LayP
                rw [HL.out]
                have h1 := HL3.out
                rw [unmark_all ks l q (by rw [HLN.out]; omega) (fun j hj => HQ.out j hj)] at h1
                exact ⟨rfl, h1.cv, h1.kp, h1.bl⟩
          | false =>
            rw [hmk] at hm
            have HMK := Aside0.mk hmk
            clear hmk
            go_wp2
            have HA := Aside0.mk (HL2.out.mark p hp true)
            exact ⟨⟨t + 1, by push_cast; rfl, by omega, ⟨by rw [markL_snoc _ _ _ (by rw [HLN.out]; exact hlt2), HPD.out]; exact HA.out⟩, ⟨fun j hj => by
              rcases Nat.lt_or_ge j t with h1 | h1
              · exact HQ.out j h1
              · obtain rfl : j = t := by omega
                rw [HPD.out]
                exact HMK.out⟩⟩, by simp [intOf]; omega⟩
        · obtain rfl : t = k := by omega
          have HL := Aside0.mk (show layL c.x c.y cnt ps ks spots cols = (0, cnt + t, putL ps l cols, markL ks l) from by
            unfold layL
            rw [if_neg (by
              rw [HN.out, HM.out]
              rintro (h1 | h1)
              · exact h1 rfl
              · rw [out_none (fun j hj => HP.out j (by rw [HN.out] at hj; exact hj))] at h1
                cases h1), if_neg, HLL.out, HN.out]
            rw [HLL.out, clash_none (fun j hj => HQ.out j (by rw [HLN.out] at hj; exact hj))]
            simp)
          have h1 := HL2.out
          rw [List.take_of_length_le (by rw [HLN.out]; exact Nat.le_refl _)] at h1
          have HL3 := Aside0.mk h1
          clear h1 HL2
          go_wp2
          go_loopw [88] (fun j wr => ∃ q : Nat, j = .int .i64 q ∧ q ≤ t ∧ Aside0 (L2 W wr n₀ c cnt (putL ps (l.take q) (cols.take q)) (markL ks l) #[.int .i64 pass, .slice A1 t c1, .slice A2 t c2] (.slice Ap t cpp) (l.map Int.ofNat))) (fun j _ => t - (intOf j).toNat)
          case atStart => exact ⟨0, rfl, Nat.zero_le _, HL3⟩
          case round =>
            clear HL3
            obtain ⟨q, rfl, hq, HL3⟩ := hrel
            by_cases hlt3 : q < t
            · obtain ⟨ad, rfl, hx⟩ := nat_at (by have h1 := (Kd.R_reads' HL3.out.row).2.2; rw [List.length_map, HLN.out] at h1; exact h1) q hlt3
              obtain ⟨p2, hpd⟩ : ∃ p2, l.getD q 0 = p2 := ⟨_, rfl⟩
              rw [hpd] at hx
              have HPD2 := Aside0.mk hpd
              have hp2 : p2 < c.n := by
                rw [← hpd, ← HLL.out, spotsIn_getD _ _ _ _ (by rw [HN.out]; omega)]
                exact plc_lt rfl _ (HP.out q (by omega))
              have hc3 := blk_cell HL3.out.cv.blk 3
              have hb2 := blk_cell HL3.out.bx 2
              obtain ⟨⟨ho0, ho1, ho2, ho3⟩, hof⟩ := HL3.out.cv.pixel p2 hp2
              have hof0 : wr.frozen? ⟨c.gp, p2 * 4, none⟩ = false := hof 0
              have hof1 := hof 1
              have hof2 := hof 2
              have hof3 := hof 3
              obtain ⟨ad2, rfl, hy0, hy1, hy2, hy3⟩ := k45_at (HC.out _ HL3.out.kp) q hlt3
              obtain ⟨px, hpx⟩ : ∃ px, cols.getD q z45 = px := ⟨_, rfl⟩
              rw [hpx] at hy0 hy1 hy2 hy3
              have HPX := Aside0.mk hpx
              clear hpd hpx hof
              go_wp2
              go_still_tail 11, (by kernel_rfl)
              change wpList _ _ _ _ _ wr.drew
              go_wp2
              have HA := Aside0.mk ((HL3.out.pix p2 hp2 px).ext (below_drew (Below.refl _ _)) HN0.out)
              exact ⟨⟨q + 1, by push_cast; rfl, by omega, ⟨by rw [putL_snoc _ _ _ _ (by rw [HLN.out]; omega) (by rw [HM.out]; omega), HPD2.out, HPX.out]; exact HA.out⟩⟩, by simp [intOf]; omega⟩
            · obtain rfl : q = t := by omega
              have h1 := HL3.out
              rw [List.take_of_length_le (by rw [HLN.out]; exact Nat.le_refl _), List.take_of_length_le (by rw [HM.out]; exact Nat.le_refl _)] at h1
              have HL4 := Aside0.mk h1
              have hc2 := blk_cell h1.cv.blk 2
              have hf2 := blk_frozen h1.cv.blk 2
              clear h1 HL3
              go_wp2
              go_ret
              unfold LayP
              rw [HL.out]
              have h1 := HL4.out.count (cnt + q)
              push_cast at h1
              exact ⟨rfl, h1.cv, h1.kp, h1.bl⟩
end Go.Proofs.Ytmeafgoifekffaa.Lib
