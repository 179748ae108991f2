/- the document's view: the walk. -/
import Derived.Test.YtmeafgoifekffaaV16
import Derived.BigQuiet
namespace Go.Proofs.Ytmeafgoifekffaa.Lib
open Go.RowKit Go.Shelf Go.Proofs.YtmeafgoifekffaaW.PrintWords Go.Proofs.YtmeafgoifekffaaW.PrintLast Go.Proofs.YtmeafgoifekffaaW.PrintMore
attribute [local go_sem] max2_mx min2_mn max_two min_two
set_option linter.unusedVariables false
set_option linter.unusedSimpArgs false
theorem rv_row (W w1 : World) (ok : Nat → Prop) : Kd.R k45 45 w1 W.heap.size ok (.slice none 0 0) [] := Kd.R_nil _ _ _ _ _
theorem rv_false (W : World) (d : Cv) {x y : Nat} (hx : d.x = x) (hy : d.y = y) : RV W (((W.alloc (.cells #[.int .i64 0, .int .i64 0, .slice none 0 0] 39)).alloc (.cells #[.int .i64 x, .int .i64 y, .slice none 0 0] 39)).alloc (.cells (waysC false) 73)).drew d (W.heap.size + 1 + 1) false (.slice none 0 0) [] := by
  subst hx hy
  have b1 : Below (W.alloc (.cells #[.int .i64 0, .int .i64 0, .slice none 0 0] 39)).heap.size (W.alloc (.cells #[.int .i64 0, .int .i64 0, .slice none 0 0] 39)) (((W.alloc (.cells #[.int .i64 0, .int .i64 0, .slice none 0 0] 39)).alloc (.cells #[.int .i64 d.x, .int .i64 d.y, .slice none 0 0] 39)).alloc (.cells (waysC false) 73)).drew := below_drew (((Below.refl _ _).alloc (Nat.le_refl _) _).alloc (by simp) _)
  have h2 := heap_alloc_new (W.alloc (.cells #[.int .i64 0, .int .i64 0, .slice none 0 0] 39)) (.cells #[.int .i64 d.x, .int .i64 d.y, .slice none 0 0] 39)
  have h3 := heap_alloc_new ((W.alloc (.cells #[.int .i64 0, .int .i64 0, .slice none 0 0] 39)).alloc (.cells #[.int .i64 d.x, .int .i64 d.y, .slice none 0 0] 39)) (.cells (waysC false) 73)
  simp only [World.size_alloc] at h2 h3
  exact ⟨below_drew ((((Below.refl _ _).alloc (Nat.le_refl _) _).alloc (by simp) _).alloc (by simp; omega) _), blk_below (heap_alloc_new W _) b1, blk_below h2 (below_drew ((Below.refl _ _).alloc (Nat.le_refl _) _)), rv_row _ _ _, h3⟩
theorem rv_true (W : World) (d : Cv) {x y : Nat} (hx : d.x = x) (hy : d.y = y) : RV W ((((W.alloc (.cells #[.int .i64 0, .int .i64 0, .slice none 0 0] 39)).alloc (.cells #[.int .i64 x, .int .i64 y, .slice none 0 0] 39)).alloc (.cells (waysC false) 73)).alloc (.cells (waysC true) 73)).drew d (W.heap.size + 1 + 1 + 1) true (.slice none 0 0) [] := by
  have h := rv_false W d hx hy
  have h4 := heap_alloc_new (((W.alloc (.cells #[.int .i64 0, .int .i64 0, .slice none 0 0] 39)).alloc (.cells #[.int .i64 x, .int .i64 y, .slice none 0 0] 39)).alloc (.cells (waysC false) 73)) (.cells (waysC true) 73)
  simp only [World.size_alloc] at h4
  have b := below_alloc (Below.refl (((W.alloc (.cells #[.int .i64 0, .int .i64 0, .slice none 0 0] 39)).alloc (.cells #[.int .i64 x, .int .i64 y, .slice none 0 0] 39)).alloc (.cells (waysC false) 73)).drew.heap.size _) (.cells (waysC true) 73)
  exact ⟨below_then h.bl h.bl.size b, blk_below h.res b, blk_below h.img b, rv_row _ _ _, h4⟩
theorem low_q (v n : Nat) (hv : v ≤ 2048) (hn : n ≤ 3) {r : Nat} (hr : lowN v n = r) (w : World) (m : Nat) : Calls Try.prog 29 #[.int .i64 v, .int .i64 n] (w.drewN m) fun e w' => e = .returned (.int .i64 r) ∧ ∃ k, w' = w.drewN k := by
  refine Calls.quiet_of ((low_walk v n hv hn hr (w.drewN m)).mono ?_)
  rintro e w' ⟨he, ⟨k, rfl⟩⟩
  exact ⟨he, k, rfl⟩
set_option maxHeartbeats 4000000 in
set_option maxRecDepth 100000 in
theorem rview_walk {W : World} {n₀ : Nat} {d : Cv} {ps : List S45} {ks : List Bool} (h : IsRc W n₀ d ps ks) (wv : Bool) :
    Calls Try.prog 16 #[.pointer (some ⟨d.g, 0, none⟩), .bool wv] W fun e w' => ImgP d.x d.y W (refTo d.x d.y ps ks wv d.n) e w' := by
  have H := Aside0.mk h
  obtain ⟨x, hx⟩ : ∃ x, d.x = x := ⟨_, rfl⟩
  obtain ⟨y, hy⟩ : ∃ y, d.y = y := ⟨_, rfl⟩
  obtain ⟨n, hn⟩ : ∃ n, d.n = n := ⟨_, rfl⟩
  obtain ⟨u, hu⟩ : ∃ u, wv = u := ⟨_, rfl⟩
  have hxy : x * y = n := by rw [← hx, ← hy, ← hn]; rfl
  have hsz := h.sz
  obtain ⟨g1, g2, g3⟩ := h.lt
  have hc0 := blk_cell h.blk 0
  have hc1 := blk_cell h.blk 1
  rw [hx, hy, hn] at hsz
  rw [hx] at hc0
  rw [hy] at hc1
  rw [show refTo d.x d.y ps ks wv d.n = refTo x y ps ks u n by rw [hx, hy, hn, hu], hx, hy]
  have HX := Aside0.mk hx
  have HY := Aside0.mk hy
  have HN := Aside0.mk hn
  have HU := Aside0.mk hu
  have HXY := Aside0.mk hxy
  have HRC := Aside0.mk (show ∀ W', Below W.heap.size W W' → IsRc W' n₀ d ps ks from fun W' hb => h.ext hb)
  clear h hx hy hn hu hxy
  rcases wv with _ | _
  all_goals
    go_enter Try.func16, Try.ntmps16
    go_wp2
    go_region
    go_wp2
    clear hc0 hc1
    first
      | (have h0 := rv_true W d HX.out HY.out
         unfold waysC at h0
         obtain ⟨w5, hw5⟩ : ∃ w5, ((((W.alloc (.cells #[.int .i64 0, .int .i64 0, .slice none 0 0] 39)).alloc (.cells #[.int .i64 x, .int .i64 y, .slice none 0 0] 39)).alloc (.cells #[.int .i64 0, .int .i64 0, .int .i64 1, .int .i64 0, .int .i64 1, .int .i64 1, .int .i64 2, .int .i64 1, .int .i64 2, .int .i64 2, .int .i64 3, .int .i64 2, .int .i64 3, .int .i64 3] 73)).alloc (.cells #[.int .i64 0, .int .i64 0, .int .i64 0, .int .i64 1, .int .i64 0, .int .i64 2, .int .i64 0, .int .i64 3] 73)).drew = w5 := ⟨_, rfl⟩
         rw [hw5] at h0 ⊢
         obtain ⟨gw, hgw⟩ : ∃ gw, W.heap.size + 1 + 1 + 1 = gw := ⟨_, rfl⟩
         rw [hgw] at h0 ⊢
         rw [HU.out] at h0
         have HL := Aside0.mk (show (waysL u).length = 4 by rw [← HU.out]; rfl)
         have hq7 : ∀ q : Nat, q < (waysL u).length → (q : Int) < 4 := fun q h => by rw [HL.out] at h; omega)
      | (have h0 := rv_false W d HX.out HY.out
         unfold waysC at h0
         obtain ⟨w5, hw5⟩ : ∃ w5, (((W.alloc (.cells #[.int .i64 0, .int .i64 0, .slice none 0 0] 39)).alloc (.cells #[.int .i64 x, .int .i64 y, .slice none 0 0] 39)).alloc (.cells #[.int .i64 0, .int .i64 0, .int .i64 1, .int .i64 0, .int .i64 1, .int .i64 1, .int .i64 2, .int .i64 1, .int .i64 2, .int .i64 2, .int .i64 3, .int .i64 2, .int .i64 3, .int .i64 3] 73)).drew = w5 := ⟨_, rfl⟩
         rw [hw5] at h0 ⊢
         obtain ⟨gw, hgw⟩ : ∃ gw, W.heap.size + 1 + 1 = gw := ⟨_, rfl⟩
         rw [hgw] at h0 ⊢
         rw [HU.out] at h0
         have HL := Aside0.mk (show (waysL u).length = 7 by rw [← HU.out]; rfl)
         have hq7 : ∀ q : Nat, q < (waysL u).length → (q : Int) < 7 := fun q h => by rw [HL.out] at h; omega)
    have HRV := Aside0.mk h0
    have HQ7 := Aside0.mk hq7
    clear hw5 hgw h0 hq7
    go_loopw [7] (fun i wr => ∃ (b : Nat) (v : Value), i = .int .i64 b ∧ b ≤ y ∧ Aside0 (RV W wr d gw u v (refTo x y ps ks u (b * x)))) (fun i _ => y - (intOf i).toNat)
    case atStart => exact ⟨0, _, rfl, Nat.zero_le _, ⟨by rw [Nat.zero_mul]; exact HRV.out⟩⟩
    case round =>
      clear HRV
      obtain ⟨b, v, rfl, hb, HRV⟩ := hrel
      obtain ⟨wo, rfl⟩ : ∃ wo : World, wo = wr := ⟨_, rfl⟩
      have hc0 := blk_cell (HRC.out _ HRV.out.bl).blk 0
      have hc1 := blk_cell (HRC.out _ HRV.out.bl).blk 1
      rw [HX.out] at hc0
      rw [HY.out] at hc1
      by_cases hlt : b < y
      · go_wp2
        clear hc0 hc1
        go_loopw [8] (fun i wr => ∃ (a : Nat) (v : Value), i = .int .i64 a ∧ a ≤ x ∧ Aside0 (RV W wr d gw u v (refTo x y ps ks u (b * x + a)))) (fun i _ => x - (intOf i).toNat)
        case atStart => exact ⟨0, _, rfl, Nat.zero_le _, HRV⟩
        case round =>
          clear HRV
          obtain ⟨a, v2, rfl, ha, HRV⟩ := hrel
          obtain ⟨wp, rfl⟩ : ∃ wp : World, wp = wr := ⟨_, rfl⟩
          have hc0 := blk_cell (HRC.out _ HRV.out.bl).blk 0
          rw [HX.out] at hc0
          by_cases hlt2 : a < x
          · go_wp2
            clear hc0
            have hk0 : b * x + a < n := by
              have h1 := Nat.mul_le_mul_right x (show b + 1 ≤ y from hlt)
              rw [Nat.add_mul, Nat.one_mul] at h1
              have h2 := HXY.out
              rw [Nat.mul_comm] at h2
              omega
            have HRI := Aside0.mk (HRV.out.box z45)
            go_loopw [10] (fun i wr => ∃ j : Nat, i = .int .i64 ((j : Int) - 1) ∧ j ≤ (waysL u).length ∧ Aside0 (RI W wr d gw u v2 (refTo x y ps ks u (b * x + a)) wp.heap.size (refAt x y ps ks u a b j))) (fun i _ => ((intOf i) + 1).toNat)
            case atStart => exact ⟨(waysL u).length, by rw [HL.out]; rfl, Nat.le_refl _, ⟨by rw [ref_end]; exact HRI.out⟩⟩
            case round =>
              clear HRI HRV
              obtain ⟨j, rfl, hj, HRI⟩ := hrel
              obtain ⟨wq, rfl⟩ : ∃ wq : World, wq = wr := ⟨_, rfl⟩
              rcases j with _ | q
              · rw [show (((0 : Nat) : Int) - 1) = -1 from rfl]
                obtain ⟨px, hpx⟩ : ∃ px, refAt x y ps ks u a b 0 = px := ⟨_, rfl⟩
                obtain ⟨o, ho⟩ : ∃ o, refTo x y ps ks u (b * x + a) = o := ⟨_, rfl⟩
                have hol : o.length = b * x + a := by rw [← ho, refTo_length]
                rw [hpx, ho] at HRI
                have HPX := Aside0.mk hpx
                have HO := Aside0.mk ho
                have hp0 := blk_cell HRI.out.pbx 0
                have hp1 := blk_cell HRI.out.pbx 1
                have hp2 := blk_cell HRI.out.pbx 2
                have hp3 := blk_cell HRI.out.pbx 3
                have hi2 := blk_cell HRI.out.rv.img 2
                have hzi := blk_lt HRI.out.rv.img
                have hzp := blk_lt HRI.out.pbx
                clear hpx ho
                go_wp2_with (at_builtin; go_loud (refine Kd.R_append k45 (w0 := W) W.heap.size rfl (.tmp 94) (.tmp 96) 33 45 (.agg #[.int .u16 0, .int .u16 0, .int .u16 0, .int .u16 0]) 8 rfl Try.underlying33 info45_ rfl (by decide) (by decide) v2 o px [.int .u16 px.f0, .int .u16 px.f1, .int .u16 px.f2, .int .u16 px.f3] (fun k' => W.heap.size ≤ k') (fun _ => False) rfl rfl (k45_mkM _ _ _ _) (fun _ hk => hk.elim) (fun k' hk' => Nat.le_trans HRI.out.rv.bl.size hk') HRI.out.rv.row HRI.out.rv.bl HRI.out.rv.bl.size (by rw [hol]; omega) ?_; intro v1 w1 ho1 hb1 hg1 hat1; obtain ⟨A1, c1, rfl, hl1, hm1⟩ := Kd.R_reads ho1; clear hat1 hl1 hm1; have hi1 := blk_grown HRI.out.rv.img hg1 (Kd.R_ne HRI.out.rv.row HRI.out.rv.img (by decide)); have hc2 := blk_cell hi1 2; have hf2 := blk_frozen hi1 2; have hz2 := blk_lt hi1; clear hi2 hp0 hp1 hp2 hp3))
                have hA := RV.app HRI.out.rv ho1 hb1 hg1
                rw [show (o ++ [px]).length = b * x + a + 1 by rw [List.length_append, hol]; rfl] at hA
                have HA := Aside0.mk hA
                clear hA
                have hm1 : (b * x + a) % x = a := by rw [Nat.mul_comm, Nat.mul_add_mod]; exact Nat.mod_eq_of_lt hlt2
                have hm2 : (b * x + a) / x = b := by rw [Nat.mul_comm, Nat.mul_add_div (by omega)]; rw [Nat.div_eq_of_lt hlt2]; rfl
                have hrs := refTo_succ x y ps ks u (b * x + a)
                rw [hm1, hm2, HO.out, HPX.out] at hrs
                exact ⟨⟨a + 1, .slice A1 (b * x + a + 1) c1, by push_cast; rfl, by omega, ⟨by show RV _ _ _ _ _ _ (refTo x y ps ks u (b * x + a + 1)); rw [hrs]; exact HA.out⟩⟩, by simp [intOf]; omega⟩
              · rw [show (((q + 1 : Nat) : Int) - 1) = (q : Int) by push_cast; omega]
                have hql : q < (waysL u).length := hj
                have hq := HQ7.out q hql
                have hq0 : (0 : Int) ≤ (q : Int) := by omega
                have hqt : (q : Int).toNat = q := by simp
                obtain ⟨cw1, cw2⟩ := ways_cell HRI.out.rv.wy hql
                obtain ⟨sm1, sm2⟩ := ways_small u q hql
                obtain ⟨dx, hdx⟩ : ∃ dx, ((waysL u).getD q (0, 0)).1 = dx := ⟨_, rfl⟩
                obtain ⟨dy, hdy⟩ : ∃ dy, ((waysL u).getD q (0, 0)).2 = dy := ⟨_, rfl⟩
                obtain ⟨p, hp⟩ : ∃ p, lowN a dx = p := ⟨_, rfl⟩
                obtain ⟨r, hr⟩ : ∃ r, lowN b dy = r := ⟨_, rfl⟩
                obtain ⟨m1, hm1⟩ : ∃ m1 : Nat, r * x = m1 := ⟨_, rfl⟩
                obtain ⟨k, hk⟩ : ∃ k : Nat, m1 + p = k := ⟨_, rfl⟩
                have HST := Aside0.mk (ref_step (ps := ps) (ks := ks) (wv := u) HXY.out hlt2 hlt hql (p := p) (q := r) (k := k) (by rw [hdx]; exact hp) (by rw [hdy]; exact hr) (by rw [hm1]; exact hk))
                have hkn : k < n := by
                  have h1 := (place_low (x := x) (y := y) (n := n) (i := dx) (j := dy) HXY.out hlt2 hlt).2
                  rw [hp, hr, hm1] at h1
                  omega
                rw [hdx] at cw1 sm1
                rw [hdy] at cw2 sm2
                have HLA := Aside0.mk (low_q a dx (by omega) sm1 hp)
                have HLB := Aside0.mk (low_q b dy (by omega) sm2 hr)
                have e1 : (r : Int) * (x : Int) = m1 := by rw [← hm1]; push_cast; rfl
                have e2 : (m1 : Int) + (p : Int) = k := by rw [← hk]; push_cast; rfl
                have hw1 : IntKind.i64.wrap (m1 : Int) = m1 := wrapI (by omega) (by omega)
                have hw2 : IntKind.i64.wrap (k : Int) = k := wrapI (by omega) (by omega)
                have hRC := HRC.out _ HRI.out.rv.bl
                have hc0 := blk_cell hRC.blk 0
                rw [HX.out] at hc0
                have HJ2 := Aside0.mk (show q ≤ (waysL u).length by omega)
                have HKN := Aside0.mk hkn
                clear hdx hdy hp hr hm1 hk hRC hkn hsz g1 g2 g3 hb ha hj sm1 sm2 hk0 hlt hlt2 hql
                go_wp2
                go_quiet (first
                    | (go_at_call 29; with_reducible exact HLB.out _ _)
                    | (go_at_call 29; with_reducible exact HLA.out _ _))
                clear cw1 cw2 hc0 hqt e1 e2 hw1 hw2 HLA HLB
                have hws : wrap64 ((q : Int) - 1) = (q : Int) - 1 := wrap64_in' (by omega) (by omega)
                have hRC := HRC.out _ HRI.out.rv.bl
                have hkn := HKN.out
                have hj2 := HJ2.out
                have hc2 := blk_cell hRC.blk 2
                have hc3 := blk_cell hRC.blk 3
                rw [HN.out] at hc2 hc3
                obtain ⟨hmk, _⟩ := hRC.mark k (by rw [HN.out]; exact hkn)
                obtain ⟨⟨hx0, hx1, hx2, hx3⟩, _⟩ := hRC.pixel k (by rw [HN.out]; exact hkn)
                obtain ⟨px, hpx⟩ : ∃ px, ps.getD k z45 = px := ⟨_, rfl⟩
                rw [hpx] at hx0 hx1 hx2 hx3
                have HPX := Aside0.mk hpx
                have hp0 := blk_cell HRI.out.pbx 0
                have hp1 := blk_cell HRI.out.pbx 1
                have hp2 := blk_cell HRI.out.pbx 2
                have hp3 := blk_cell HRI.out.pbx 3
                have hf0 := blk_frozen HRI.out.pbx 0
                have hf1 := blk_frozen HRI.out.pbx 1
                have hf2 := blk_frozen HRI.out.pbx 2
                have hf3 := blk_frozen HRI.out.pbx 3
                have hzp := blk_lt HRI.out.pbx
                clear hRC hpx
                have hk00 : (0 : Int) ≤ (k : Int) := by omega
                have hk01 : (k : Int) < (n : Int) := by omega
                have hkt : (k : Int).toNat = k := by simp
                cases hmm : ks.getD k false with
                | false =>
                  rw [hmm] at hmk
                  have hst := HST.out
                  rw [hmm, if_neg (by simp)] at hst
                  have HST2 := Aside0.mk hst
                  clear hmm hst HST
                  go_wp2
                  exact ⟨⟨q, by (first | rfl | rw [hws]), hj2, ⟨by rw [HST2.out]; exact HRI.out.ext (by repeat (first | exact Below.refl _ _ | apply pw_below_drewN | apply below_drew))⟩⟩, by simp [intOf, hws]⟩
                | true =>
                  rw [hmm] at hmk
                  have hst := HST.out
                  rw [hmm, if_pos rfl, HPX.out] at hst
                  have HST2 := Aside0.mk hst
                  clear hmm hst HST
                  go_wp2
                  exact ⟨⟨q, by (first | rfl | rw [hws]), hj2, ⟨by rw [HST2.out]; exact (HRI.out.ext (by repeat (first | exact Below.refl _ _ | apply pw_below_drewN | apply below_drew))).put px⟩⟩, by simp [intOf, hws]⟩
          · obtain rfl : a = x := by omega
            go_wp2
            exact ⟨⟨b + 1, v2, by push_cast; rfl, by omega, ⟨by rw [Nat.add_mul, Nat.one_mul]; exact HRV.out⟩⟩, by simp [intOf]; omega⟩
      · obtain rfl : b = y := by omega
        have HI := HRV.out.img
        have hi0 := blk_cell HI 0
        have hi1 := blk_cell HI 1
        have hi2 := blk_cell HI 2
        have hr0 := blk_cell HRV.out.res 0
        have hr1 := blk_cell HRV.out.res 1
        have hr2 := blk_cell HRV.out.res 2
        have hf0 := blk_frozen HRV.out.res 0
        have hf1 := blk_frozen HRV.out.res 1
        have hf2 := blk_frozen HRV.out.res 2
        rw [HX.out] at hi0
        rw [HY.out] at hi1
        have hrow := HRV.out.row
        have hne := Kd.R_ne hrow HRV.out.res (by decide)
        rw [show b * x = n by rw [Nat.mul_comm]; exact HXY.out] at hrow
        obtain ⟨g, cp, rfl, hg, _⟩ := Kd.R_form hrow (by rw [refTo_length]; have := HXY.out; have := Nat.mul_pos (show 0 < x by omega) (show 0 < b by omega); omega)
        have HROW := Aside0.mk hrow
        have HNE := Aside0.mk hne
        have HG := Aside0.mk hg
        clear hrow hne hg
        go_wp2
        refine bodyPost_ret (v := .agg #[.int .i64 x, .int .i64 b, .slice (some ⟨g, 0, none⟩) (refTo x b ps ks u n).length cp]) (by simp [results, Try.results16, go_sem, hr0, hr1, hr2, hf0, hf1, hf2]) rfl ?_
        refine ⟨g, cp, rfl, HG.out, ?_, ((HRV.out.bl.setCell (p := ⟨W.heap.size, 0, none⟩) (Nat.le_refl _) _).setCell (p := ⟨W.heap.size, 1, none⟩) (Nat.le_refl _) _).setCell (p := ⟨W.heap.size, 2, none⟩) (Nat.le_refl _) _⟩
        have h1 := Kd.R_far1 HROW.out rfl HNE.out
        have h2 := Kd.R_far (Kd.R_far (Kd.R_far h1 (p := ⟨W.heap.size, 0, none⟩) (fun k hk => hk.2) (.int .i64 x)) (p := ⟨W.heap.size, 1, none⟩) (fun k hk => hk.2) (.int .i64 b)) (p := ⟨W.heap.size, 2, none⟩) (fun k hk => hk.2) (.slice (some ⟨g, 0, none⟩) (refTo x b ps ks u n).length cp)
        exact Kd.R_mono (Kd.R_tight rfl h2) (fun k hk => by simpa [Value.ownBlock] using hk)
end Go.Proofs.Ytmeafgoifekffaa.Lib
