/- halftonelaw19.fixed: walked by hand: it answers true. -/
import Derived.Test.YtmeafgoifekffaaV9
import Derived.Outline
namespace Go.Proofs.Ytmeafgoifekffaa.Lib
open Go.RowKit Go.Shelf Go.Proofs.YtmeafgoifekffaaW.PrintWords Go.Proofs.YtmeafgoifekffaaW.PrintLast Go.Proofs.YtmeafgoifekffaaW.PrintMore
attribute [local go_sem high] eqA45
set_option linter.unusedVariables false
set_option linter.unusedSimpArgs false
/-- a block read as a row of one -/
theorem one_C51 {w : World} {b t : Nat} {x : S51} (h : w.heap[b]? = some (.cells #[.int .i64 x.f0, .int .i64 x.f1] t (0, 0))) : Kd.C k51 w (some ⟨b, 0, none⟩) 1 [x] := by
  refine ⟨rfl, by omega, fun _ => ⟨_, rfl, fun j p hj => ⟨[.int .i64 p.f0, .int .i64 p.f1], rfl, k51_mk _ _, fun i u hu => ?_⟩⟩⟩
  obtain ⟨hj0, hp⟩ := List.getElem?_eq_some_iff.1 hj
  obtain rfl : j = 0 := by simpa using hj0
  obtain rfl : x = p := by simpa using hp
  have e : k51.sz = 2 := rfl
  rw [e, Nat.zero_mul, Nat.zero_add, add_plain, blk_cell h]
  simpa using hu
theorem one_C45 {w : World} {b t : Nat} {x : S45} (h : w.heap[b]? = some (.cells #[.int .u16 x.f0, .int .u16 x.f1, .int .u16 x.f2, .int .u16 x.f3] t (0, 0))) : Kd.C k45 w (some ⟨b, 0, none⟩) 1 [x] := by
  refine ⟨rfl, by omega, fun _ => ⟨_, rfl, fun j p hj => ⟨[.int .u16 p.f0, .int .u16 p.f1, .int .u16 p.f2, .int .u16 p.f3], rfl, k45_mk _ _, fun i u hu => ?_⟩⟩⟩
  obtain ⟨hj0, hp⟩ := List.getElem?_eq_some_iff.1 hj
  obtain rfl : j = 0 := by simpa using hj0
  obtain rfl : x = p := by simpa using hp
  have e : k45.sz = 4 := rfl
  rw [e, Nat.zero_mul, Nat.zero_add, add_plain, blk_cell h]
  simpa using hu
def redC : S45 := ⟨9, 0, 0, 1⟩
theorem fx_lay : layL 2 1 0 [z45, z45] [false, false] [⟨0, 0⟩] [redC] = (0, 1, [redC, z45], [true, false]) := rfl
theorem fx_at : atL 2 1 [redC, z45] [true, false] 1 0 = (z45, false) := rfl
theorem fx_view : viewTo 2 1 [redC, z45] [true, false] false 2 = [redC, redC] := rfl
theorem fx_new (W : World) : Calls Try.prog 9 #[.int .i64 2, .int .i64 1] W fun e w' => ∃ c : Cv, e = .returned (.tuple #[.pointer (some ⟨c.g, 0, none⟩), .int .i64 0]) ∧ c.x = 2 ∧ c.y = 1 ∧ IsCv w' W.heap.size c 0 [z45, z45] [false, false] ∧ Below W.heap.size W w' := by
  refine (new_walk W.heap.size 2 1 W (by unfold CvOk; omega) (Nat.le_refl _)).mono ?_
  rintro e w' ⟨c, rfl, h1, h2, h3, h4⟩
  have hn : c.n = 2 := by unfold Cv.n; rw [h1, h2]
  rw [hn] at h3
  exact ⟨c, rfl, h1, h2, h3, h4⟩
theorem fx_layw {W : World} {n₀ : Nat} {c : Cv} (h : IsCv W n₀ c 0 [z45, z45] [false, false]) (hx : c.x = 2) (hy : c.y = 1) (hn : n₀ ≤ W.heap.size) {b1 b2 c1 c2 : Nat} (h1 : W.heap[b1]? = some (.cells #[.int .i64 0, .int .i64 0] 51 (0, 0))) (h2 : W.heap[b2]? = some (.cells #[.int .u16 9, .int .u16 0, .int .u16 0, .int .u16 1] 45 (0, 0))) (hb2 : b2 ≠ c.gp) :
    Calls Try.prog 12 #[.pointer (some ⟨c.g, 0, none⟩), .agg #[.int .i64 0, .slice (some ⟨b1, 0, none⟩) 1 c1, .slice (some ⟨b2, 0, none⟩) 1 c2]] W fun e w' => e = .returned (.int .i64 0) ∧ IsCv w' n₀ c 1 [redC, z45] [true, false] ∧ Kept W w' c.S ∧ Below n₀ W w' := by
  obtain ⟨a1, ha1⟩ := h.bp
  obtain ⟨a2, ha2⟩ := h.bk
  have n1 : ¬ c.S b1 := by
    rintro (e | e | e)
    · exact blk_ne h1 h.blk (by decide) e
    · exact blk_ne h1 ha1 (by decide) e
    · exact blk_ne h1 ha2 (by decide) e
  have n2 : ¬ c.S b2 := by
    rintro (e | e | e)
    · exact blk_ne h2 h.blk (by decide) e
    · exact hb2 e
    · exact blk_ne h2 ha2 (by decide) e
  refine (lay_walk h hn 0 (some ⟨b1, 0, none⟩) (some ⟨b2, 0, none⟩) c1 c2 [⟨0, 0⟩] [redC] (n := 1) rfl rfl (by omega) (by omega) (fun W' hk => one_C51 (x := ⟨0, 0⟩) (blk_kept h1 hk n1)) (fun W' hk => one_C45 (x := redC) (blk_kept h2 hk n2))).mono ?_
  rw [hx, hy, fx_lay]
  exact fun e w' h => h
theorem fx_atw {W : World} {n₀ : Nat} {c : Cv} (h : IsCv W n₀ c 1 [redC, z45] [true, false]) (hx : c.x = 2) (hy : c.y = 1) :
    Calls Try.prog 24 #[.pointer (some ⟨c.g, 0, none⟩), .int .i64 1, .int .i64 0] W fun e w' => e = .returned (.tuple #[.agg #[.int .u16 0, .int .u16 0, .int .u16 0, .int .u16 0], .bool false]) ∧ Below W.heap.size W w' := by
  refine (at_walk h 1 0).mono ?_
  rw [hx, hy, fx_at]
  exact fun e w' h => h
theorem fx_vieww {W : World} {n₀ : Nat} {c : Cv} (h : IsCv W n₀ c 1 [redC, z45] [true, false]) (hx : c.x = 2) (hy : c.y = 1) :
    Calls Try.prog 15 #[.pointer (some ⟨c.g, 0, none⟩), .bool false] W fun e w' => ∃ g cp, e = .returned (.agg #[.int .i64 2, .int .i64 1, .slice (some ⟨g, 0, none⟩) 2 cp]) ∧ W.heap.size ≤ g ∧ Kd.R k45 45 w' W.heap.size (fun k => k = g) (.slice (some ⟨g, 0, none⟩) 2 cp) [redC, redC] ∧ Below W.heap.size W w' := by
  have hn : c.n = 2 := by unfold Cv.n; rw [hx, hy]
  refine (view_walk h (by omega) false).mono ?_
  rw [hx, hy, hn, fx_view]
  exact fun e w' h => h
theorem fx_full {W : World} {n₀ : Nat} {c : Cv} (h : IsCv W n₀ c 1 [redC, z45] [true, false]) :
    Calls Try.prog 19 #[.pointer (some ⟨c.g, 0, none⟩)] W fun e w' => e = .returned (.bool false) ∧ Drawn0 W w' := by
  have hn : c.n = 2 := h.lp
  have h1 := full_walk h
  rw [hn] at h1
  exact h1
theorem fx_count {W : World} {n₀ : Nat} {c : Cv} (h : IsCv W n₀ c 1 [redC, z45] [true, false]) :
    Calls Try.prog 23 #[.pointer (some ⟨c.g, 0, none⟩)] W fun e w' => e = .returned (.int .i64 1) ∧ W = w' := count_walk h
/-- what the last row of fixed reads -/
def FxS (w0 gi gv cv : Nat) (W : World) : Prop :=
  (W.cell? ⟨gi, 2, none⟩ = some (.slice (some ⟨gv, 0, none⟩) 2 cv) ∧ W.cell? ⟨gv, 0, none⟩ = some (.int .u16 9) ∧ W.cell? ⟨gv, 1, none⟩ = some (.int .u16 0) ∧ W.cell? ⟨gv, 2, none⟩ = some (.int .u16 0) ∧ W.cell? ⟨gv, 3, none⟩ = some (.int .u16 1)) ∧
  (W.cell? ⟨gv, 4, none⟩ = some (.int .u16 9) ∧ W.cell? ⟨gv, 5, none⟩ = some (.int .u16 0) ∧ W.cell? ⟨gv, 6, none⟩ = some (.int .u16 0) ∧ W.cell? ⟨gv, 7, none⟩ = some (.int .u16 1)) ∧
  (W.cell? ⟨w0, 0, none⟩ = some (.int .u16 9) ∧ W.cell? ⟨w0, 1, none⟩ = some (.int .u16 0) ∧ W.cell? ⟨w0, 2, none⟩ = some (.int .u16 0) ∧ W.cell? ⟨w0, 3, none⟩ = some (.int .u16 1))
theorem fxS_mk {w0 gi gv cv : Nat} {W : World} (h1 : W.heap[gi]? = some (.cells #[.int .i64 2, .int .i64 1, .slice (some ⟨gv, 0, none⟩) 2 cv] 39 (0, 0))) {b : Nat} {ok : Nat → Prop} (h2 : Kd.R k45 45 W b ok (.slice (some ⟨gv, 0, none⟩) 2 cv) [redC, redC])
    (h3 : W.heap[w0]? = some (.cells #[.int .u16 9, .int .u16 0, .int .u16 0, .int .u16 1] 45 (0, 0))) : FxS w0 gi gv cv W := by
  have hC := (Kd.R_reads' h2).2.2
  obtain ⟨ad, e, p0, p1, p2, p3⟩ := k45_at hC 0 (by decide)
  obtain ⟨ad', e', q0, q1, q2, q3⟩ := k45_at hC 1 (by decide)
  cases e
  cases e'
  exact ⟨⟨blk_cell h1 2, p0, p1, p2, p3⟩, ⟨q0, q1, q2, q3⟩, ⟨blk_cell h3 0, blk_cell h3 1, blk_cell h3 2, blk_cell h3 3⟩⟩
def halftonelaw19_fixed.f : Option Bool := some true
set_option maxRecDepth 100000 in
set_option maxHeartbeats 1000000 in
theorem halftonelaw19_fixed.calls (r : Bool) (w : World) (h : halftonelaw19_fixed.f = some r) :
    Calls Try.prog 8 #[] w fun e w' => e = .returned (.bool r) ∧ Below w.heap.size w w' := by
  obtain rfl := Option.some.inj h
  go_enter Try.func8, Try.ntmps8
  go_wp2_with (first
    | (go_at_call 9; refine (fx_new _).mono ?_; rintro e w1 ⟨c, rfl, hx, hy, hI1, hb1⟩; have hbr := blk_below (heap_alloc_new w _) hb1; have HBR := Aside0.mk hbr; have zr := blk_lt hbr; have hr0 := blk_cell hbr 0; have hr1 := blk_cell hbr 1; have hr2 := blk_cell hbr 2; have hr3 := blk_cell hbr 3; have HX := Aside0.mk hx; have HY := Aside0.mk hy; have HI1 := Aside0.mk hI1; have HB1 := Aside0.mk (below_then ((Below.refl w.heap.size w).alloc (Nat.le_refl _) _) (by simp) hb1); have HZ1 := Aside0.mk hb1.size; clear hx hy hI1 hb1 hbr)
    | (go_at_call 12; refine (fx_layw (n₀ := w.heap.size + 1) (b1 := w1.heap.size) (b2 := w1.heap.size + 1) (((HI1.out.alloc _).alloc _).low (by simp)) HX.out HY.out ?s1 ?s2 ?s3 ?s4).mono ?_; (case s1 => (have := HZ1.out; simp at this ⊢; omega)); (case s2 => exact blk_below (heap_alloc_new w1 _) ((Below.refl _ _).alloc (Nat.le_refl _) _)); (case s3 => (have h3 := heap_alloc_new (w1.alloc (.cells #[.int .i64 0, .int .i64 0] 51)) (.cells #[.int .u16 9, .int .u16 0, .int .u16 0, .int .u16 1] 45); rw [World.size_alloc] at h3; exact h3)); (case s4 => (have := HI1.out.lt.2.1; omega)); rintro e w2 ⟨rfl, hI2, hk2, hb2⟩; clear hr0 hr1 hr2 hr3; have HI2 := Aside0.mk hI2; have HB2 := Aside0.mk (Below.trans (((HB1.out.alloc HB1.out.size _).alloc (Nat.le_trans HB1.out.size (by simp)) _)) (hb2.mono (Nat.le_succ _))); have hbr := (hb2.block w.heap.size (Nat.lt_succ_self _)).trans (blk_below HBR.out (((Below.refl _ _).alloc (Nat.le_refl _) _).alloc (by simp) _)); have HBR2 := Aside0.mk hbr; clear hI2 hk2 hb2 hbr)
    | (go_at_call 24; refine (fx_atw HI2.out HX.out HY.out).mono ?_; rintro e w3 ⟨rfl, hb3⟩; have HI3 := Aside0.mk (HI2.out.ext hb3); have HB3 := Aside0.mk (below_then HB2.out HB2.out.size hb3); have HBR3 := Aside0.mk (blk_below HBR2.out hb3); clear hb3)
    | (go_at_call 15; refine (fx_vieww (HI3.out.alloc _) HX.out HY.out).mono ?_; rintro e w4 ⟨gv, cv, rfl, hgv, hR4, hb4⟩; have HI4 := Aside0.mk ((HI3.out.alloc _).ext hb4); have HB4 := Aside0.mk (below_then (HB3.out.alloc HB3.out.size _) (Nat.le_trans HB3.out.size (by simp)) hb4); have HBR4 := Aside0.mk (blk_below (blk_below HBR3.out ((Below.refl _ _).alloc (Nat.le_refl _) _)) hb4); have HR4 := Aside0.mk hR4; clear hb4 hgv hR4))
  have hb5 : Below w4.heap.size w4 (w4.alloc (.cells #[.int .i64 2, .int .i64 1, .slice (some ⟨gv, 0, none⟩) 2 cv] 39)) := (Below.refl _ _).alloc (Nat.le_refl _) _
  have hI5 := HI4.out.ext hb5
  have hB5 := below_then HB4.out HB4.out.size hb5
  have hR5 := Kd.R_below HR4.out hb5
  have hbr5 := blk_below HBR4.out hb5
  have hbi5 := heap_alloc_new w4 (.cells #[.int .i64 2, .int .i64 1, .slice (some ⟨gv, 0, none⟩) 2 cv] 39)
  obtain ⟨w5, hw5⟩ : ∃ w5, w4.alloc (.cells #[.int .i64 2, .int .i64 1, .slice (some ⟨gv, 0, none⟩) 2 cv] 39) = w5 := ⟨_, rfl⟩
  rw [hw5] at hI5 hB5 hR5 hbr5 hbi5 ⊢
  have HS := Aside0.mk (show ∀ w', Below w5.heap.size w5 w' → FxS w.heap.size w4.heap.size gv cv w' from fun w' hb => fxS_mk (blk_below hbi5 hb) (Kd.R_below hR5 hb) (blk_below hbr5 hb))
  have HI5 := Aside0.mk hI5
  have HB5 := Aside0.mk hB5
  clear hI5 hB5 hR5 hbr5 hbi5 hw5 hb5 HI2 HB2 HBR2 HI3 HB3 HBR3 HI4 HB4 HBR4 HR4
  unfold FxS at HS
  go_region_held3 (fun w' => (w'.cell? ⟨w4.heap.size, 2, none⟩ = some (.slice (some ⟨gv, 0, none⟩) 2 cv) ∧ w'.cell? ⟨gv, 0, none⟩ = some (.int .u16 9) ∧ w'.cell? ⟨gv, 1, none⟩ = some (.int .u16 0) ∧ w'.cell? ⟨gv, 2, none⟩ = some (.int .u16 0) ∧ w'.cell? ⟨gv, 3, none⟩ = some (.int .u16 1)) ∧ (w'.cell? ⟨gv, 4, none⟩ = some (.int .u16 9) ∧ w'.cell? ⟨gv, 5, none⟩ = some (.int .u16 0) ∧ w'.cell? ⟨gv, 6, none⟩ = some (.int .u16 0) ∧ w'.cell? ⟨gv, 7, none⟩ = some (.int .u16 1)) ∧ (w'.cell? ⟨w.heap.size, 0, none⟩ = some (.int .u16 9) ∧ w'.cell? ⟨w.heap.size, 1, none⟩ = some (.int .u16 0) ∧ w'.cell? ⟨w.heap.size, 2, none⟩ = some (.int .u16 0) ∧ w'.cell? ⟨w.heap.size, 3, none⟩ = some (.int .u16 1))) (exact HS.out _ (by repeat (first | exact Below.refl _ _ | apply pw_below_drewN | apply below_drew))) (first
    | (go_at_call 23; refine (fx_count (n₀ := w.heap.size + 1) ?s1).mono ?_; (case s1 => repeat (first | exact HI5.out | (with_reducible refine IsCv.drewN ?_ _) | (with_reducible refine IsCv.ext ?_ (below_drew (Below.refl _ _))))); rintro e w6 ⟨rfl, rfl⟩)
    | (go_at_call 19; refine (fx_full (n₀ := w.heap.size + 1) ?s1).mono ?_; (case s1 => repeat (first | exact HI5.out | (with_reducible refine IsCv.drewN ?_ _) | (with_reducible refine IsCv.ext ?_ (below_drew (Below.refl _ _))))); rintro e w7 ⟨rfl, ⟨nd7, rfl⟩⟩))
  go_wp2
  go_ret
  exact ⟨rfl, by repeat (first | exact HB5.out | apply pw_below_drewN | apply below_drew)⟩
end Go.Proofs.Ytmeafgoifekffaa.Lib
