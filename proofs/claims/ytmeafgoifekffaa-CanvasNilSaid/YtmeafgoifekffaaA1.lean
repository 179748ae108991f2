/- CanvasNil: walked by hand. -/
import Derived.Test.YtmeafgoifekffaaV10
namespace Go.Proofs.Ytmeafgoifekffaa.Lib
open Go.RowKit Go.Shelf Go.Proofs.YtmeafgoifekffaaW.PrintWords Go.Proofs.YtmeafgoifekffaaW.PrintLast Go.Proofs.YtmeafgoifekffaaW.PrintMore
attribute [local go_sem high] eqA45
attribute [local go_sem] Oper.semAt_some
set_option linter.unusedVariables false
set_option linter.unusedSimpArgs false
set_option maxRecDepth 100000 in
theorem view_nil (wv : Bool) (W : World) : Calls Try.prog 15 #[.pointer none, .bool wv] W fun e W' => e = .returned (.agg #[.int .i64 0, .int .i64 0, .slice none 0 0]) ∧ Below W.heap.size W W' := by
  refine (callsIn_wide (n := 5)).1 ?_
  refine callsIn_of_wp_marks Try.func15 rfl trivial ?_ rfl
  simp only [Try.ntmps15, List.size_toArray, List.length_cons, List.length_nil, Nat.reduceAdd, Nat.reduceSub, Array.replicate_succ, Array.replicate_zero, List.push_toArray, List.append_toArray, List.nil_append, List.cons_append]
  refine wpIn_wide.2 ?_
  go_wp2_with (go_at_call 20; refine (image_nil _).mono ?_; rintro e w1 ⟨rfl, hb⟩)
  refine wp_loop_rounds 1 ?_
  rw [rounds_succ]
  have e1 : Below W.heap.size W ((W.alloc (.cells #[.pointer none] 24)).alloc (.cells #[.int .i64 0, .int .i64 0, .slice none 0 0] 39)) := ((Below.refl _ _).alloc (Nat.le_refl _) _).alloc (by simp) _
  have b2 := heap_alloc_new (W.alloc (.cells #[.pointer none] 24)) (.cells #[.int .i64 0, .int .i64 0, .slice none 0 0] 39)
  rw [World.size_alloc] at b2
  have b3 := blk_below b2 hb
  have hr0 := blk_cell b3 0
  have hr1 := blk_cell b3 1
  have hr2 := blk_cell b3 2
  have hf0 := blk_frozen b3 0
  have hf1 := blk_frozen b3 1
  have hf2 := blk_frozen b3 2
  have hz := blk_lt b3
  go_wp2
  have hB := below_then e1 e1.size hb
  have hres := blk_set (blk_set (blk_set b3 0 (.int .i64 0)) 1 (.int .i64 0)) 2 (.slice none 0 0)
  have hB2 := ((hB.setCell (p := ⟨W.heap.size + 1, 0, none⟩) (Nat.le_succ _) (.int .i64 0)).setCell (p := ⟨W.heap.size + 1, 1, none⟩) (Nat.le_succ _) (.int .i64 0)).setCell (p := ⟨W.heap.size + 1, 2, none⟩) (Nat.le_succ _) (.slice none 0 0)
  obtain ⟨w5, hw5⟩ : ∃ w5, ((w1.setCell ⟨W.heap.size + 1, 0, none⟩ (.int .i64 0)).setCell ⟨W.heap.size + 1, 1, none⟩ (.int .i64 0)).setCell ⟨W.heap.size + 1, 2, none⟩ (.slice none 0 0) = w5 := ⟨_, rfl⟩
  rw [hw5] at hres hB2 ⊢
  clear hw5 hr0 hr1 hr2 hf0 hf1 hf2
  have hb6 : Below w5.heap.size w5 (w5.alloc (.cells #[.int .i64 0, .int .i64 0, .slice none 0 0] 39)) := (Below.refl _ _).alloc (Nat.le_refl _) _
  have hB6 := below_then hB2 hB2.size hb6
  have hr6 := blk_below hres hb6
  obtain ⟨w6, hw6⟩ : ∃ w6, w5.alloc (.cells #[.int .i64 0, .int .i64 0, .slice none 0 0] 39) = w6 := ⟨_, rfl⟩
  rw [hw6] at hB6 hr6 ⊢
  have g0 := blk_cell hr6 0
  have g1 := blk_cell hr6 1
  have g2 := blk_cell hr6 2
  exact ⟨.agg #[.int .i64 0, .int .i64 0, .slice none 0 0], by simp [results, Try.results15, go_sem, g0, g1, g2], rfl, hB6⟩
theorem line_shape {W : World} {x : Int × List S51 × List S45} {c0 c1 c2 : Value} (h : (Kd.pair (Kd.int .i64) (Kd.pair (Kd.slice 51 k51) (Kd.slice 45 k45))).K W x [c0, c1, c2]) :
    ∃ A1 n1 A2 n2, c0 = .int .i64 x.1 ∧ c1 = .slice A1 x.2.1.length n1 ∧ c2 = .slice A2 x.2.2.length n2 := by
  obtain ⟨a, b, e, h1, a2, b2, rfl, h2, h3⟩ := h
  obtain rfl : a = [.int .i64 x.1] := h1
  obtain ⟨A1, n1, rfl, _⟩ := h2
  obtain ⟨A2, n2, rfl, _⟩ := h3
  simp at e
  obtain ⟨rfl, rfl, rfl⟩ := e
  exact ⟨A1, n1, A2, n2, rfl, rfl, rfl⟩
set_option maxRecDepth 100000 in
set_option maxHeartbeats 1000000 in
theorem nil_row (pass : Int) (A1 A2 : Option Addr) (n1 m1 n2 m2 : Nat) (a b : Int) (w : World) :
    Calls Try.prog 7 #[.agg #[.int .i64 pass, .slice A1 n1 m1, .slice A2 n2 m2], .int .i64 a, .int .i64 b] w fun e w' => e = .returned (.bool true) ∧ Below w.heap.size w w' := by
  have hfl : ∀ w : World, (Instr.field 39 (.agg #[.int .i64 0, .int .i64 0, .slice none 0 0]) 2).run Try.prog w = .ok (.slice none 0 0) w := fun _ => by kernel_rfl
  go_enter Try.func7, Try.ntmps7
  go_wp2_with (first
    | (go_at_call 8; refine (halftonelaw19_fixed.calls true _ rfl).mono ?_; rintro e w1 ⟨rfl, hb1⟩; have HB1 := Aside0.mk (below_then ((Below.refl w.heap.size w).alloc (Nat.le_refl _) _) (by simp) hb1); have HBL := Aside0.mk (blk_below (heap_alloc_new w _) hb1); clear hb1)
    | (go_at_call 24; refine (at_nil a b _).mono ?_; unfold S45.val z45; rintro e w2 ⟨rfl, hb2⟩; have HB2 := Aside0.mk (below_then HB1.out HB1.out.size hb2); have hbl := blk_below HBL.out hb2; have hl0 := blk_cell hbl 0; have hl1 := blk_cell hbl 1; have hl2 := blk_cell hbl 2; have zl := blk_lt hbl; clear hb2 hbl)
    | (go_at_call 12; refine (lay_nil pass A1 A2 n1 m1 n2 m2 _).mono ?_; rintro e w3 ⟨rfl, hb3⟩; have HB3 := Aside0.mk (below_then (HB2.out.alloc HB2.out.size _) (Nat.le_trans HB2.out.size (by simp)) hb3); have hbl := blk_below (heap_alloc_new w2 _) hb3; have hq0 := blk_cell hbl 0; have hq1 := blk_cell hbl 1; have hq2 := blk_cell hbl 2; have hq3 := blk_cell hbl 3; clear hb3 hbl hl0 hl1 hl2)
    | (go_at_call 23; refine (count_nil _).mono ?_; rintro e w4 ⟨rfl, rfl⟩)
    | (go_at_call 19; refine (full_nil _).mono ?_; rintro e w4 ⟨rfl, ⟨nd4, rfl⟩⟩)
    | (go_at_call 20; refine (image_nil _).mono ?_; rintro e w5 ⟨rfl, hb5⟩; have HB5 := Aside0.mk (below_then (pw_below_drewN HB3.out nd4) HB3.out.size hb5); clear hb5)
    | (go_at_call 22; refine (mask_nil _).mono ?_; rintro e w6 ⟨rfl, rfl⟩)
    | (go_at_call 15; refine (view_nil true _).mono ?_; rintro e w7 ⟨rfl, hb7⟩; have HB7 := Aside0.mk (below_then HB5.out HB5.out.size hb7); clear hb7))
  go_ret
  exact ⟨rfl, HB7.out⟩
theorem nil_said (c0 c1 c2 : Value) (x : Int × List S51 × List S45) (a b : Int) (w : World) (h : (Kd.pair (Kd.int .i64) (Kd.pair (Kd.slice 51 k51) (Kd.slice 45 k45))).K w x [c0, c1, c2])
    (_ : (Lit.int .i64 x.1).wf = true ∧ (x.2.1.length ≤ 9223372036854775807 ∧ x.2.1.length * 16 ≤ 140737488351232 ∧ ∀ r ∈ x.2.1, (Lit.int .i64 r.f0).wf = true ∧ (Lit.int .i64 r.f1).wf = true) ∧ (x.2.2.length ≤ 9223372036854775807 ∧ x.2.2.length * 8 ≤ 140737488351232 ∧ ∀ r ∈ x.2.2, (Lit.int .u16 r.f0).wf = true ∧ (Lit.int .u16 r.f1).wf = true ∧ (Lit.int .u16 r.f2).wf = true ∧ (Lit.int .u16 r.f3).wf = true))
    (_ : (Lit.int .i64 a).wf = true) (_ : (Lit.int .i64 b).wf = true) :
    Calls Try.prog 7 #[.agg #[c0, c1, c2], .int .i64 a, .int .i64 b] w fun e w' => e = .returned (.bool true) ∧ Below w.heap.size w w' := by
  obtain ⟨A1, n1, A2, n2, rfl, rfl, rfl⟩ := line_shape h
  exact nil_row _ _ _ _ _ _ _ a b w
end Go.Proofs.Ytmeafgoifekffaa.Lib
