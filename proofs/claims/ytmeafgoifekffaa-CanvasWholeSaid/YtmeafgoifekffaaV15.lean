/- halftonelaw19.same: the walk. -/
import Derived.Test.YtmeafgoifekffaaV14
namespace Go.Proofs.Ytmeafgoifekffaa.Lib
open Go.RowKit Go.Shelf Go.Proofs.YtmeafgoifekffaaW.PrintWords Go.Proofs.YtmeafgoifekffaaW.PrintLast Go.Proofs.YtmeafgoifekffaaW.PrintMore
attribute [local go_sem high] eqA45
attribute [local go_sem] max2_mx min2_mn max_two min_two
set_option linter.unusedVariables false
set_option linter.unusedSimpArgs false
/-- both, side by side -/
structure Bo (W : World) (n₀ : Nat) (c d : Cv) (cnt : Nat) (ps : List S45) (ks : List Bool) : Prop where
  cv : IsCv W n₀ c cnt ps ks
  rc : IsRc W n₀ d ps ks
  ex : d.x = c.x
  ey : d.y = c.y
  ct : cnt = cntL ks
  bk : Blank ps ks
section
variable {W W1 : World} {n₀ : Nat} {c d : Cv} {cnt : Nat} {ps : List S45} {ks : List Bool}
theorem Bo.ext (h : Bo W n₀ c d cnt ps ks) (hb : Below W.heap.size W W1) : Bo W1 n₀ c d cnt ps ks := ⟨h.cv.ext hb, h.rc.ext hb, h.ex, h.ey, h.ct, h.bk⟩
theorem Bo.drewN (h : Bo W n₀ c d cnt ps ks) (m : Nat) : Bo (W.drewN m) n₀ c d cnt ps ks := h.ext (pw_below_drewN (Below.refl _ _) m)
theorem Bo.drew (h : Bo W n₀ c d cnt ps ks) : Bo W.drew n₀ c d cnt ps ks := h.ext (below_drew (Below.refl _ _))
theorem Bo.en (h : Bo W n₀ c d cnt ps ks) : d.n = c.n := by unfold Cv.n; rw [h.ex, h.ey]
theorem Bo.count (h : Bo W n₀ c d cnt ps ks) {q : Nat} (hq : cntL ks = q) : Calls Try.prog 23 #[.pointer (some ⟨c.g, 0, none⟩)] W fun e w' => e = .returned (.int .i64 q) ∧ W = w' := by
  have h1 := count_walk h.cv
  rw [h.ct, hq] at h1
  exact h1
theorem Bo.rcount (h : Bo W n₀ c d cnt ps ks) {q : Nat} (hq : cntL ks = q) : Calls Try.prog 33 #[.pointer (some ⟨d.g, 0, none⟩)] W fun e w' => e = .returned (.int .i64 q) ∧ W = w' := by
  have h1 := rcount_walk h.rc
  rw [hq] at h1
  exact h1
theorem Bo.full (h : Bo W n₀ c d cnt ps ks) {q n : Nat} {b : Bool} (hq : cntL ks = q) (hn : c.n = n) (hb : ((q : Int) == (n : Int)) = b) : Calls Try.prog 19 #[.pointer (some ⟨c.g, 0, none⟩)] W fun e w' => e = .returned (.bool b) ∧ Drawn0 W w' := by
  have h1 := full_walk h.cv
  rw [h.ct, hq, hn, hb] at h1
  exact h1
theorem Bo.at_ (h : Bo W n₀ c d cnt ps ks) {k a b : Nat} (hk : k < c.n) (ha : k % c.x = a) (hb : k / c.x = b) {px : S45} {m : Bool} (hp : ps.getD k z45 = px) (hm : ks.getD k false = m) :
    Calls Try.prog 24 #[.pointer (some ⟨c.g, 0, none⟩), .int .i64 a, .int .i64 b] W fun e w' => e = .returned (.tuple #[.agg #[.int .u16 px.f0, .int .u16 px.f1, .int .u16 px.f2, .int .u16 px.f3], .bool m]) ∧ Below W.heap.size W w' := at_k h.cv h.bk hk ha hb hp hm
end
theorem alloc_blk {W X w4 : World} {o : Obj} (hX : X.heap = (W.alloc o).heap) (hb : Below X.heap.size X w4) : w4.heap[W.heap.size]? = some o :=
  blk_below (by rw [hX]; exact heap_alloc_new W o) hb
set_option maxHeartbeats 2000000 in
set_option maxRecDepth 100000 in
theorem same_walk {W : World} {n₀ : Nat} {c d : Cv} {cnt : Nat} {ps : List S45} {ks : List Bool} (h : Bo W n₀ c d cnt ps ks) :
    Calls Try.prog 21 #[.pointer (some ⟨c.g, 0, none⟩), .pointer (some ⟨d.g, 0, none⟩)] W fun e w' => e = .returned (.bool true) ∧ Below W.heap.size W w' := by
  obtain ⟨n, hn⟩ : ∃ n, c.n = n := ⟨_, rfl⟩
  obtain ⟨q, hq⟩ : ∃ q, cntL ks = q := ⟨_, rfl⟩
  obtain ⟨b, hb⟩ : ∃ b, ((q : Int) == (n : Int)) = b := ⟨_, rfl⟩
  have hsz := h.cv.sz
  rw [hn] at hsz
  have hn1 : 1 ≤ n := by rw [← hn]; exact Nat.mul_pos (by omega) (by omega)
  have hlk : ks.length = n := by rw [← hn]; exact h.cv.lk.symm
  have hlp : ps.length = n := by rw [← hn]; exact h.cv.lp.symm
  have hdn : d.n = n := by rw [h.en, hn]
  have HH := Aside0.mk h
  have HN := Aside0.mk hn
  have HQ := Aside0.mk hq
  have HB := Aside0.mk hb
  have HLK := Aside0.mk hlk
  have HLP := Aside0.mk hlp
  have HDN := Aside0.mk hdn
  have hqq : ((q : Int) != (q : Int)) = false := by simp
  have hnn : ((n : Int) != (n : Int)) = false := by simp
  have hbb : (b != b) = false := by simp
  have hMK := mask_walk h.cv (by omega)
  unfold CloneP at hMK
  rw [hlk] at hMK
  have HMK := Aside0.mk hMK
  clear h hn hq hlk hlp hdn hMK
  rcases b with _ | _
  all_goals
    go_enter Try.func21, Try.ntmps21
    go_wp2_with (go_at_call 22; refine HMK.out.mono ?_; rintro e w1 ⟨gm, cm, rfl, hgm, hRm, hb1⟩; have HRM := Aside0.mk hRm; have HB1 := Aside0.mk hb1; have H1 := Aside0.mk (HH.out.ext hb1); clear hgm hRm hb1)
    have HS := Aside0.mk (show ∀ w', Below w1.heap.size w1 w' → w'.cell? ⟨d.g, 3, none⟩ = some (.slice (some ⟨d.gk, 0, none⟩) n d.ck) from fun w' hb => by
      have h1 := blk_cell (H1.out.ext hb).rc.blk 3
      rw [HDN.out] at h1
      exact h1)
    go_region_held3 (fun w' => w'.cell? ⟨d.g, 3, none⟩ = some (.slice (some ⟨d.gk, 0, none⟩) n d.ck)) (exact HS.out _ (by repeat (first | exact Below.refl _ _ | apply pw_below_drewN | apply below_drew))) (first
      | (go_at_call 23; refine (Bo.count (n₀ := n₀) (d := d) (cnt := cnt) (ps := ps) ?s1 HQ.out).mono ?_; (case s1 => repeat (first | exact H1.out | (with_reducible refine Bo.drewN ?_ _) | (with_reducible refine Bo.drew ?_))); rintro e w6 ⟨rfl, rfl⟩)
      | (go_at_call 33; refine (Bo.rcount (n₀ := n₀) (c := c) (cnt := cnt) (ps := ps) ?s1 HQ.out).mono ?_; (case s1 => repeat (first | exact H1.out | (with_reducible refine Bo.drewN ?_ _) | (with_reducible refine Bo.drew ?_))); rintro e w6 ⟨rfl, rfl⟩)
      | (go_at_call 19; refine (Bo.full (n₀ := n₀) (d := d) (cnt := cnt) (ps := ps) ?s1 HQ.out HN.out HB.out).mono ?_; (case s1 => repeat (first | exact H1.out | (with_reducible refine Bo.drewN ?_ _) | (with_reducible refine Bo.drew ?_))); rintro e w7 ⟨rfl, ⟨nd7, rfl⟩⟩))
    go_wp2
    clear hqq hnn hbb hb HS HMK
    go_loopw [41] (fun i wr => ∃ k : Nat, i = .int .i64 k ∧ k ≤ n ∧ Aside0 (Below w1.heap.size w1 wr)) (fun i _ => n - (intOf i).toNat)
    case atStart => exact ⟨0, rfl, Nat.zero_le _, ⟨by repeat (first | exact Below.refl _ _ | apply pw_below_drewN | apply below_drew)⟩⟩
    case round =>
      obtain ⟨k, rfl, hk, HW⟩ := hrel
      obtain ⟨w2, rfl⟩ : ∃ w2 : World, w2 = wr := ⟨_, rfl⟩
      by_cases hlt : k < n
      · have H2 := Aside0.mk (H1.out.ext HW.out)
        have hx := H2.out.ex
        have HS := Aside0.mk (show ∀ w', Below w2.heap.size w2 w' → w'.cell? ⟨d.g, 0, none⟩ = some (.int .i64 c.x) from fun w' hb => by
          have h1 := blk_cell (H2.out.ext hb).rc.blk 0
          rw [hx] at h1
          exact h1)
        obtain ⟨qa, hqa⟩ : ∃ qa, k % c.x = qa := ⟨_, rfl⟩
        obtain ⟨qb, hqb⟩ : ∃ qb, k / c.x = qb := ⟨_, rfl⟩
        have hqb2 : qb ≤ 65536 := by have := Nat.div_le_self k c.x; omega
        have hr1 : (k : Int) % c.x = (qa : Int) := by rw [← hqa]; rfl
        have hr1' : (k : Int).tmod c.x = (qa : Int) := by rw [← hqa]; rfl
        have hr2' : (k : Int).tdiv c.x = (qb : Int) := by rw [← hqb]; rfl
        have hr2 : (k : Int) / c.x = (qb : Int) := by rw [← hqb]; rfl
        have hr3 : IntKind.i64.wrap (qb : Int) = qb := wrapI (by omega) (by omega)
        have hxn : ((c.x : Int) == 0) = false := by simp; omega
        have hxn2 : ¬ ((c.x : Int) = 0) := by omega
        have hxn3 : ¬ (c.x = 0) := by omega
        obtain ⟨px, hpx⟩ : ∃ px, ps.getD k z45 = px := ⟨_, rfl⟩
        obtain ⟨m, hm⟩ : ∃ m, ks.getD k false = m := ⟨_, rfl⟩
        have HQA := Aside0.mk hqa
        have HQB := Aside0.mk hqb
        have HPX := Aside0.mk hpx
        have HMM := Aside0.mk hm
        clear hqa hqb hpx hm hx
        go_wp2
        go_region_held3 (fun w' => w'.cell? ⟨d.g, 0, none⟩ = some (.int .i64 c.x)) (exact HS.out _ (by repeat (first | exact Below.refl _ _ | exact HB4.out | apply pw_below_drewN | apply below_drew | apply below_alloc | exact (((HB4.out.setCell (p := ⟨w2.heap.size, 0, none⟩) (Nat.le_refl _) _).setCell (p := ⟨w2.heap.size, 1, none⟩) (Nat.le_refl _) _).setCell (p := ⟨w2.heap.size, 2, none⟩) (Nat.le_refl _) _).setCell (p := ⟨w2.heap.size, 3, none⟩) (Nat.le_refl _) _))) (first
          | (go_at_call 24; refine (Bo.at_ (n₀ := n₀) (d := d) (cnt := cnt) (ps := ps) (ks := ks) ?s1 (by rw [HN.out]; exact hlt) HQA.out HQB.out HPX.out HMM.out).mono ?_; (case s1 => repeat (first | exact H2.out | (with_reducible refine Bo.drewN ?_ _) | (with_reducible refine Bo.drew ?_) | (with_reducible refine Bo.ext ?_ ((Below.refl _ _).alloc (Nat.le_refl _) _)))); rintro e w4 ⟨rfl, hb4⟩; have hb5 : Below w2.heap.size w2 w4 := (by (refine below_then ?_ ?_ hb4; (repeat (first | exact Below.refl _ _ | apply below_drew | apply pw_below_drewN | apply below_alloc)); first | exact Nat.le_refl _ | simp | (simp; omega))); have HB4 := Aside0.mk hb5; (first | (have hbl : w4.heap[w2.heap.size]? = some (.cells #[.int .u16 0, .int .u16 0, .int .u16 0, .int .u16 0] 45 (0, 0)) := (by (refine alloc_blk ?_ hb4; rfl)); have HBL := Aside0.mk hbl; have hl0 := blk_cell hbl 0; have hl1 := blk_cell hbl 1; have hl2 := blk_cell hbl 2; have hl3 := blk_cell hbl 3; have hf0 := blk_frozen hbl 0; have hf1 := blk_frozen hbl 1; have hf2 := blk_frozen hbl 2; have hf3 := blk_frozen hbl 3; clear hbl) | skip); clear hb4 hb5))
        all_goals
          go_wp2
          clear hr1 hr1' hr2 hr2' hr3 hxn hxn2 hxn3 HS
          first
            | (have hbx := blk_set (blk_set (blk_set (blk_set HBL.out 0 (.int .u16 px.f0)) 1 (.int .u16 px.f1)) 2 (.int .u16 px.f2)) 3 (.int .u16 px.f3)
               have hB5 : Below w2.heap.size w2 ((((w4.setCell ⟨w2.heap.size, 0, none⟩ (.int .u16 px.f0)).setCell ⟨w2.heap.size, 1, none⟩ (.int .u16 px.f1)).setCell ⟨w2.heap.size, 2, none⟩ (.int .u16 px.f2)).setCell ⟨w2.heap.size, 3, none⟩ (.int .u16 px.f3)) := (((HB4.out.setCell (p := ⟨w2.heap.size, 0, none⟩) (Nat.le_refl _) _).setCell (p := ⟨w2.heap.size, 1, none⟩) (Nat.le_refl _) _).setCell (p := ⟨w2.heap.size, 2, none⟩) (Nat.le_refl _) _).setCell (p := ⟨w2.heap.size, 3, none⟩) (Nat.le_refl _) _
               clear hl0 hl1 hl2 hl3 hf0 hf1 hf2 hf3 HBL
               obtain ⟨w5, hw5⟩ : ∃ w5, (((w4.setCell ⟨w2.heap.size, 0, none⟩ (.int .u16 px.f0)).setCell ⟨w2.heap.size, 1, none⟩ (.int .u16 px.f1)).setCell ⟨w2.heap.size, 2, none⟩ (.int .u16 px.f2)).setCell ⟨w2.heap.size, 3, none⟩ (.int .u16 px.f3) = w5 := ⟨_, rfl⟩
               rw [hw5] at hbx hB5 ⊢
               have HB5 := Aside0.mk hB5
               have HPB := Aside0.mk hbx
               clear hw5 hB5 hbx)
            | (have hbx := heap_alloc_new w4 (.cells #[.int .u16 px.f0, .int .u16 px.f1, .int .u16 px.f2, .int .u16 px.f3] 45)
               have hB5 := below_alloc HB4.out (.cells #[.int .u16 px.f0, .int .u16 px.f1, .int .u16 px.f2, .int .u16 px.f3] 45)
               obtain ⟨w5, hw5⟩ : ∃ w5, w4.alloc (.cells #[.int .u16 px.f0, .int .u16 px.f1, .int .u16 px.f2, .int .u16 px.f3] 45) = w5 := ⟨_, rfl⟩
               rw [hw5] at hbx hB5 ⊢
               have HB5 := Aside0.mk hB5
               have HPB := Aside0.mk hbx
               clear hw5 hB5 hbx)
          have hp0 := blk_cell HPB.out 0
          have hp1 := blk_cell HPB.out 1
          have hp2 := blk_cell HPB.out 2
          have hp3 := blk_cell HPB.out 3
          have H5 := Aside0.mk (H2.out.ext HB5.out)
          have hd2 := blk_cell H5.out.rc.blk 2
          have hd3 := blk_cell H5.out.rc.blk 3
          obtain ⟨hi, _⟩ := H5.out.rc.mark k (by rw [HDN.out]; exact hlt)
          obtain ⟨⟨hx0, hx1, hx2, hx3⟩, _⟩ := H5.out.rc.pixel k (by rw [HDN.out]; exact hlt)
          rw [HDN.out] at hd2 hd3
          rw [HMM.out] at hi
          rw [HPX.out] at hx0 hx1 hx2 hx3
          have hmk : w5.cell? ⟨gm, k, none⟩ = some (.bool m) := by
            have h1 := (Kd.R_reads' (Kd.R_below (Kd.R_below HRM.out HW.out) HB5.out)).2.2
            rw [HLK.out] at h1
            obtain ⟨ad, e, h2⟩ := bool_at h1 k hlt
            cases e
            rw [HMM.out] at h2
            rw [add_plain] at h2
            exact h2
          have hmm : (m != m) = false := by simp
          go_quiet (fail)
          go_wp2
          exact ⟨⟨k + 1, by push_cast; rfl, by omega, ⟨by repeat (first | exact below_then HW.out HW.out.size HB5.out | apply pw_below_drewN | apply below_drew)⟩⟩, by simp [intOf]; omega⟩
      · obtain rfl : k = n := by omega
        have H2 := Aside0.mk (H1.out.ext HW.out)
        have hx := H2.out.ex
        have hy := H2.out.ey
        have HS := Aside0.mk (show ∀ w', Below w2.heap.size w2 w' → w'.cell? ⟨d.g, 0, none⟩ = some (.int .i64 c.x) ∧ w'.cell? ⟨d.g, 1, none⟩ = some (.int .i64 c.y) ∧ w'.cell? ⟨d.g, 2, none⟩ = some (.slice (some ⟨d.gp, 0, none⟩) k d.cp) from fun w' hb => by
          have h0 := blk_cell (H2.out.ext hb).rc.blk 0
          have h1 := blk_cell (H2.out.ext hb).rc.blk 1
          have h2 := blk_cell (H2.out.ext hb).rc.blk 2
          rw [hx] at h0
          rw [hy] at h1
          rw [HDN.out] at h2
          exact ⟨h0, h1, h2⟩)
        have HIM := Aside0.mk (show ∀ w', Below w2.heap.size w2 w' → Calls Try.prog 20 #[.pointer (some ⟨c.g, 0, none⟩)] w' fun e W' => ∃ g cc, e = .returned (.agg #[.int .i64 c.x, .int .i64 c.y, .slice (some ⟨g, 0, none⟩) k cc]) ∧ k ≤ cc ∧ Kd.C k45 W' (some ⟨g, 0, none⟩) k ps ∧ Below w'.heap.size w' W' from fun w' hb => by
          refine (image_walk (H2.out.ext hb).cv (by rw [HN.out]; omega)).mono ?_
          rintro e W' ⟨g, cc, rfl, _, hR, hb2⟩
          obtain ⟨h1, h2, h3⟩ := Kd.R_reads' hR
          rw [HLP.out] at h2 h3
          exact ⟨g, cc, by rw [HLP.out], h2, h3, hb2⟩)
        have HRP := Aside0.mk (show ∀ w', Below w2.heap.size w2 w' → k ≤ d.cp ∧ Kd.C k45 w' (some ⟨d.gp, 0, none⟩) k ps from fun w' hb => by
          have h1 := rc_pix (H2.out.ext hb).rc
          have h2 := (Kd.R_reads' (H2.out.ext hb).rc.pix).2.1
          rw [HDN.out] at h1 h2
          exact ⟨h2, h1⟩)
        have hcp := (HRP.out _ (Below.refl _ _)).1
        clear hx hy
        go_wp2
        go_region_held3 (fun w' => w'.cell? ⟨d.g, 0, none⟩ = some (.int .i64 c.x) ∧ w'.cell? ⟨d.g, 1, none⟩ = some (.int .i64 c.y) ∧ w'.cell? ⟨d.g, 2, none⟩ = some (.slice (some ⟨d.gp, 0, none⟩) k d.cp)) (exact HS.out _ (by repeat (first | exact Below.refl _ _ | exact HB6.out | exact HB5.out | apply pw_below_drewN | apply below_drew))) (first
          | (go_at_call 20; refine (HIM.out _ ?s1).mono ?_; (case s1 => repeat (first | exact Below.refl _ _ | apply pw_below_drewN | apply below_drew)); rintro e w5 ⟨g5, c5, rfl, hc5, hC5, hb5⟩; have HB5 := Aside0.mk (show Below w2.heap.size w2 w5 by (refine below_then ?_ ?_ hb5; (repeat (first | exact Below.refl _ _ | apply below_drew | apply pw_below_drewN)); exact Nat.le_refl _)); have HC5 := Aside0.mk hC5; clear hb5 hC5)
          | (go_at_call 14; refine (same_img _ c.x c.y ps HLP.out (by omega) _ _ _ _ HC5.out hc5 (HRP.out _ HB5.out).2 hcp).mono ?_; rintro e w6 ⟨rfl, hb6⟩; have HB6 := Aside0.mk (below_then HB5.out HB5.out.size hb6); clear hb6))
        go_wp2
        go_ret
        exact ⟨rfl, below_then (below_then HB1.out HB1.out.size HW.out) (Nat.le_trans HB1.out.size HW.out.size) HB6.out⟩
end Go.Proofs.Ytmeafgoifekffaa.Lib
