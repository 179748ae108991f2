/- CanvasStays: the walk. -/
import Derived.Test.YtmeafgoifekffaaA3
import Derived.Test.YtmeafgoifekffaaP2
import Derived.Test.YtmeafgoifekffaaX
namespace Go.Proofs.Ytmeafgoifekffaa.Lib
open Go.RowKit Go.Shelf Go.Proofs.YtmeafgoifekffaaW.PrintWords Go.Proofs.YtmeafgoifekffaaW.PrintLast Go.Proofs.YtmeafgoifekffaaW.PrintMore
attribute [local go_sem high] eqA45
attribute [local go_sem] max2_mx min2_mn max_two min_two
set_option linter.unusedVariables false
set_option linter.unusedSimpArgs false
/-- the canvas, since a world -/
structure Uno (w0 W : World) (c : Cv) (ps : List S45) (ks : List Bool) : Prop where
  cv : IsCv W w0.heap.size c (cntL ks) ps ks
  bl : Below w0.heap.size w0 W
theorem Uno.ext {w0 W W1 : World} {c : Cv} {ps : List S45} {ks : List Bool} (h : Uno w0 W c ps ks) (hb : Below W.heap.size W W1) : Uno w0 W1 c ps ks := ⟨h.cv.ext hb, below_then h.bl h.bl.size hb⟩
theorem with_fact {T G : Prop} (h : T) (k : Aside0 T → G) : G := k ⟨h⟩
/-- an empty literal is a row of no elements -/
theorem lit_R {α : Type} (d : Kd α) {W : World} {base e b : Nat} (h : W.heap[b]? = some (.cells #[] e (0, 0))) (hb : base ≤ b) : Kd.R d e W base (fun k => base ≤ k) (.slice (some ⟨b, 0, none⟩) 0 0) [] :=
  ⟨fun k hk => by simp [Value.ownBlock] at hk; omega, [], ⟨by simp, .inr ⟨b, 0, #[], rfl, hb, h, Nat.le_refl _, Nat.zero_le _, by simp, by simp⟩⟩, Reps.none _ _⟩
theorem new_at (w : World) (o : Obj) {b : Nat} (hb : w.heap.size = b) : (w.alloc o).heap[b]? = some o := by subst hb; exact heap_alloc_new w o
section
variable {P : Program} {ops : Array Oper} {o : Oper} {a : Act} {Q : Exit → Act → World → Prop} {Kc : Act → World → Prop} {α : Type}
/-- append onto an empty literal, of a row that came in: at a step of a region that draws -/
theorem app_lit (d : Kd α) {wa W : World} (hw : Region.wanted o (yielded ops a.tmps) = true) (s x : Operand) (t e : TypeId) (z : Value) (bytes : Nat)
    (ho : o.op = .call { callee := .builtin .append, args := #[s, x], argTypes := #[t, t] })
    (ht : P.underlying t = some (.slice e)) (hinfo : (P.info? e).map (fun i => (i.zero, i.size, i.bytes)) = some (some z, d.sz, bytes)) (hz : z.cells.size = d.sz) (hs0 : 0 < d.sz) (hb0 : 0 < bytes)
    (b : Nat) (ys : List α) (A : Option Addr) (m c : Nat) (hs : a.eval s = .slice (some ⟨b, 0, none⟩) 0 0) (hx : a.eval x = .slice A m c)
    (hL : W.heap[b]? = some (.cells #[] e (0, 0))) (hbb : wa.heap.size ≤ b) (HB : Below wa.heap.size wa W) (HC : Kd.C d wa A m ys) (hKM : ∀ {w base ok x cs}, d.K w x cs → d.M w base ok x cs) (hl : m * bytes ≤ 140737488355328)
    (h : ∀ A1 c1 w1, d.R e w1 wa.heap.size (fun k => wa.heap.size ≤ k) (.slice A1 m c1) ys → Below wa.heap.size wa w1 → (∀ (g : Nat) (o : Obj), W.heap[g]? = some o → g ≠ b → w1.heap[g]? = some o) →
      (∀ {β : Type} {d' : Kd β} {e' : Nat} {base' : Nat} {ok' : Nat → Prop} {u : Value} {zs : List β}, Kd.R d' e' W base' ok' u zs → (∀ q, q ∈ e' :: d'.E → q ≠ e) → Kd.R d' e' w1 base' ok' u zs) → Kc (a.put o.dst (.slice A1 m c1)) w1) :
    if Region.wanted o (yielded ops a.tmps) = true then Oper.wp P o a W Kc Q else Kc (a.put o.dst undef) W := by
  refine Kd.R_append_rows_step d (w0 := wa) wa.heap.size hw s x t e z bytes ho ht hinfo hz hs0 hb0 (.slice (some ⟨b, 0, none⟩) 0 0) [] ys A m c (fun k => wa.heap.size ≤ k) (fun _ => False) hs hx (lit_R d hL hbb) (Kd.C_below HC HB) (fun _ _ h => hKM h) (fun _ h => h.elim) (fun k hk => Nat.le_trans HB.size hk) HB HB.size (by simpa using hl) ?_
  intro v1 w1 ho1 hb1 hg1 _
  rw [List.nil_append] at ho1
  obtain ⟨A1, c1, rfl⟩ := Kd.R_slice ho1
  have hm : ys.length = m := HC.1
  rw [hm] at ho1 ⊢
  exact h A1 c1 w1 ho1 hb1 (fun g o hg hne => blk_grown hg hg1 (by simp [Value.ownBlock]; exact hne)) (fun hr hq => Kd.R_over hr (lit_R d hL hbb) hq hg1)
end
theorem k51_KM {w : World} {base : Nat} {ok : Nat → Prop} {x : S51} {cs : List Value} (h : k51.K w x cs) : k51.M w base ok x cs := by
  obtain rfl := k51_open h
  exact k51_mkM _ _ _ _
theorem box12 {W W' : World} {g : Nat} {a b e : Value} (h : W.heap[g]? = some (.cells #[a, b, e] 35 (0, 0))) (hb : Below W.heap.size W W') : W'.cell? ⟨g, 1, none⟩ = some b ∧ W'.cell? ⟨g, 2, none⟩ = some e := ⟨blk_cell (blk_below h hb) 1, blk_cell (blk_below h hb) 2⟩
/-- the region that copies a line: what holds of what is listed -/
structure RI (wa : World) (bx n m : Nat) (A1 A2 : Option Addr) (c1 c2 : Nat) (spots : List S51) (cols : List S45) (l : Nat → Bool) (v55 v56 v57 v58 v59 v60 v61 v62 v63 v15 : Value) (w : World) : Prop where
  bl : Below wa.heap.size wa w
  s0 : l 0 = true → ∃ b, v55 = .slice (some ⟨b, 0, none⟩) 0 0 ∧ wa.heap.size ≤ b ∧ (l 3 = false → w.heap[b]? = some (.cells #[] 51 (0, 0)))
  s1 : l 1 = true → v56 = .pointer (some ⟨bx, 1, none⟩)
  s2 : l 2 = true → v57 = .slice A1 n c1
  s3 : l 3 = true → ∃ A c, v58 = .slice A n c ∧ Kd.R k51 51 w wa.heap.size (fun k => wa.heap.size ≤ k) (.slice A n c) spots
  s4 : l 4 = true → ∃ b, v59 = .slice (some ⟨b, 0, none⟩) 0 0 ∧ wa.heap.size ≤ b ∧ (l 7 = false → w.heap[b]? = some (.cells #[] 45 (0, 0)))
  s5 : l 5 = true → v60 = .pointer (some ⟨bx, 2, none⟩)
  s6 : l 6 = true → v61 = .slice A2 m c2
  s7 : l 7 = true → ∃ A c, v62 = .slice A m c ∧ Kd.R k45 45 w wa.heap.size (fun k => wa.heap.size ≤ k) (.slice A m c) cols
  s8 : l 8 = true → v63 = .agg #[.int .i64 0, v58, v62]
  s9 : l 9 = true → ∃ g, v15 = .pointer (some ⟨g, 0, none⟩) ∧ wa.heap.size ≤ g ∧ (l 10 = false → w.heap[g]? = some (.cells #[.int .i64 0, .slice none 0 0, .slice none 0 0] 35 (0, 0))) ∧ (l 10 = true → w.heap[g]? = some (.cells #[.int .i64 0, v58, v62] 35 (0, 0)))
section
variable {wa w w1 : World} {bx n m : Nat} {A1 A2 : Option Addr} {c1 c2 : Nat} {spots : List S51} {cols : List S45} {l : Nat → Bool} {v55 v56 v57 v58 v59 v60 v61 v62 v63 v15 v : Value}
/-- a world in which all that was stands as it was -/
theorem RI.ext (h : RI wa bx n m A1 A2 c1 c2 spots cols l v55 v56 v57 v58 v59 v60 v61 v62 v63 v15 w) (hb : Below w.heap.size w w1) : RI wa bx n m A1 A2 c1 c2 spots cols l v55 v56 v57 v58 v59 v60 v61 v62 v63 v15 w1 := by
  obtain ⟨bl, s0, s1, s2, s3, s4, s5, s6, s7, s8, s9⟩ := h
  refine ⟨below_then bl bl.size hb, fun e => ?_, s1, s2, fun e => ?_, fun e => ?_, s5, s6, fun e => ?_, s8, fun e => ?_⟩
  · obtain ⟨b, h1, h2, h3⟩ := s0 e
    exact ⟨b, h1, h2, fun e => blk_below (h3 e) hb⟩
  · obtain ⟨A, c, h1, h2⟩ := s3 e
    exact ⟨A, c, h1, Kd.R_below h2 hb⟩
  · obtain ⟨b, h1, h2, h3⟩ := s4 e
    exact ⟨b, h1, h2, fun e => blk_below (h3 e) hb⟩
  · obtain ⟨A, c, h1, h2⟩ := s7 e
    exact ⟨A, c, h1, Kd.R_below h2 hb⟩
  · obtain ⟨g, h1, h2, h3, h4⟩ := s9 e
    exact ⟨g, h1, h2, fun e => blk_below (h3 e) hb, fun e => blk_below (h4 e) hb⟩
end
theorem RI.start (wa : World) (bx n m : Nat) (A1 A2 : Option Addr) (c1 c2 : Nat) (spots : List S51) (cols : List S45) (v55 v56 v57 v58 v59 v60 v61 v62 v63 v15 : Value) : RI wa bx n m A1 A2 c1 c2 spots cols (fun _ => false) v55 v56 v57 v58 v59 v60 v61 v62 v63 v15 wa.drew :=
  ⟨below_drew (Below.refl _ _), by simp, by simp, by simp, by simp, by simp, by simp, by simp, by simp, by simp, by simp⟩
section
variable {wa w w1 : World} {bx n m : Nat} {A1 A2 : Option Addr} {c1 c2 : Nat} {spots : List S51} {cols : List S45} {l : Nat → Bool} {v55 v56 v57 v58 v59 v60 v61 v62 v63 v15 v : Value}
theorem upd_no {l : Nat → Bool} {i : Nat} {p : Prop} (h : upd l i i = false) : p := by simp [upd] at h
theorem RI.op1 (h : RI wa bx n m A1 A2 c1 c2 spots cols l v55 v56 v57 v58 v59 v60 v61 v62 v63 v15 w) : RI wa bx n m A1 A2 c1 c2 spots cols (upd l 1) v55 (.pointer (some ⟨bx, 1, none⟩)) v57 v58 v59 v60 v61 v62 v63 v15 w :=
  ⟨h.bl, h.s0, fun _ => rfl, h.s2, h.s3, h.s4, h.s5, h.s6, h.s7, h.s8, h.s9⟩
theorem RI.op2 (h : RI wa bx n m A1 A2 c1 c2 spots cols l v55 v56 v57 v58 v59 v60 v61 v62 v63 v15 w) : RI wa bx n m A1 A2 c1 c2 spots cols (upd l 2) v55 v56 (.slice A1 n c1) v58 v59 v60 v61 v62 v63 v15 w :=
  ⟨h.bl, h.s0, h.s1, fun _ => rfl, h.s3, h.s4, h.s5, h.s6, h.s7, h.s8, h.s9⟩
theorem RI.op5 (h : RI wa bx n m A1 A2 c1 c2 spots cols l v55 v56 v57 v58 v59 v60 v61 v62 v63 v15 w) : RI wa bx n m A1 A2 c1 c2 spots cols (upd l 5) v55 v56 v57 v58 v59 (.pointer (some ⟨bx, 2, none⟩)) v61 v62 v63 v15 w :=
  ⟨h.bl, h.s0, h.s1, h.s2, h.s3, h.s4, fun _ => rfl, h.s6, h.s7, h.s8, h.s9⟩
theorem RI.op6 (h : RI wa bx n m A1 A2 c1 c2 spots cols l v55 v56 v57 v58 v59 v60 v61 v62 v63 v15 w) : RI wa bx n m A1 A2 c1 c2 spots cols (upd l 6) v55 v56 v57 v58 v59 v60 (.slice A2 m c2) v62 v63 v15 w :=
  ⟨h.bl, h.s0, h.s1, h.s2, h.s3, h.s4, h.s5, fun _ => rfl, h.s7, h.s8, h.s9⟩
theorem RI.op8 (h : RI wa bx n m A1 A2 c1 c2 spots cols l v55 v56 v57 v58 v59 v60 v61 v62 v63 v15 w) : RI wa bx n m A1 A2 c1 c2 spots cols (upd l 8) v55 v56 v57 v58 v59 v60 v61 v62 (.agg #[.int .i64 0, v58, v62]) v15 w :=
  ⟨h.bl, h.s0, h.s1, h.s2, h.s3, h.s4, h.s5, h.s6, h.s7, fun _ => rfl, h.s9⟩
theorem RI.op0 (h : RI wa bx n m A1 A2 c1 c2 spots cols l v55 v56 v57 v58 v59 v60 v61 v62 v63 v15 w) : RI wa bx n m A1 A2 c1 c2 spots cols (upd l 0) (.slice (some ⟨w.heap.size, 0, none⟩) 0 0) v56 v57 v58 v59 v60 v61 v62 v63 v15 (w.alloc (.cells #[] 51)) := by
  have hb := h.bl.size
  have h := h.ext (below_alloc (Below.refl _ _) (.cells #[] 51))
  exact ⟨h.bl, fun _ => ⟨_, rfl, hb, fun _ => heap_alloc_new w _⟩, h.s1, h.s2, h.s3, h.s4, h.s5, h.s6, h.s7, h.s8, h.s9⟩
theorem RI.op4 (h : RI wa bx n m A1 A2 c1 c2 spots cols l v55 v56 v57 v58 v59 v60 v61 v62 v63 v15 w) : RI wa bx n m A1 A2 c1 c2 spots cols (upd l 4) v55 v56 v57 v58 (.slice (some ⟨w.heap.size, 0, none⟩) 0 0) v60 v61 v62 v63 v15 (w.alloc (.cells #[] 45)) := by
  have hb := h.bl.size
  have h := h.ext (below_alloc (Below.refl _ _) (.cells #[] 45))
  exact ⟨h.bl, h.s0, h.s1, h.s2, h.s3, fun _ => ⟨_, rfl, hb, fun _ => heap_alloc_new w _⟩, h.s5, h.s6, h.s7, h.s8, h.s9⟩
theorem RI.op9 (h : RI wa bx n m A1 A2 c1 c2 spots cols l v55 v56 v57 v58 v59 v60 v61 v62 v63 v15 w) (h10 : l 10 = false) : RI wa bx n m A1 A2 c1 c2 spots cols (upd l 9) v55 v56 v57 v58 v59 v60 v61 v62 v63 (.pointer (some ⟨w.heap.size, 0, none⟩)) (w.alloc (.cells #[.int .i64 0, .slice none 0 0, .slice none 0 0] 35)) := by
  have hb := h.bl.size
  have h := h.ext (below_alloc (Below.refl _ _) (.cells #[.int .i64 0, .slice none 0 0, .slice none 0 0] 35))
  exact ⟨h.bl, h.s0, h.s1, h.s2, h.s3, h.s4, h.s5, h.s6, h.s7, h.s8, fun _ => ⟨_, rfl, hb, fun _ => heap_alloc_new w _, fun e => by rw [show upd l 9 10 = l 10 from rfl, h10] at e; cases e⟩⟩
theorem RI.op3 {b : Nat} {A : Option Addr} {c : Nat} (h : RI wa bx n m A1 A2 c1 c2 spots cols l v55 v56 v57 v58 v59 v60 v61 v62 v63 v15 w) (hx : w.heap[b]? = some (.cells #[] 51 (0, 0))) (h8 : l 8 = false) (h10 : l 10 = false) (hb : Below wa.heap.size wa w1) (hR : Kd.R k51 51 w1 wa.heap.size (fun k => wa.heap.size ≤ k) (.slice A n c) spots)
    (hG : ∀ (g : Nat) (o : Obj), w.heap[g]? = some o → g ≠ b → w1.heap[g]? = some o)
    (hO : ∀ {β : Type} {d' : Kd β} {e' : Nat} {base' : Nat} {ok' : Nat → Prop} {u : Value} {zs : List β}, Kd.R d' e' w base' ok' u zs → (∀ q, q ∈ e' :: d'.E → q ≠ 51) → Kd.R d' e' w1 base' ok' u zs) : RI wa bx n m A1 A2 c1 c2 spots cols (upd l 3) v55 v56 v57 (.slice A n c) v59 v60 v61 v62 v63 v15 w1 := by
  obtain ⟨bl, s0, s1, s2, s3, s4, s5, s6, s7, s8, s9⟩ := h
  refine ⟨hb, fun e => ?_, s1, s2, fun _ => ⟨A, c, rfl, hR⟩, fun e => ?_, s5, s6, fun e => ?_, fun e => ?_, fun e => ?_⟩
  · obtain ⟨b, h1, h2, _⟩ := s0 e
    exact ⟨b, h1, h2, fun e => upd_no e⟩
  · obtain ⟨b2, h1, h2, h3⟩ := s4 e
    exact ⟨b2, h1, h2, fun e => hG _ _ (h3 e) (blk_ne (h3 e) hx (by decide))⟩
  · obtain ⟨A, c, h1, h2⟩ := s7 e
    exact ⟨A, c, h1, hO h2 (by decide)⟩
  · exact absurd ((show l 8 = true from e).symm.trans h8) (by decide)
  · obtain ⟨g, h1, h2, h3, _⟩ := s9 e
    exact ⟨g, h1, h2, fun e => hG _ _ (h3 e) (blk_ne (h3 e) hx (by decide)), fun e => by rw [show upd l 3 10 = l 10 from rfl, h10] at e; cases e⟩
theorem RI.op7 {b : Nat} {A : Option Addr} {c : Nat} (h : RI wa bx n m A1 A2 c1 c2 spots cols l v55 v56 v57 v58 v59 v60 v61 v62 v63 v15 w) (hx : w.heap[b]? = some (.cells #[] 45 (0, 0))) (h8 : l 8 = false) (h10 : l 10 = false) (hb : Below wa.heap.size wa w1) (hR : Kd.R k45 45 w1 wa.heap.size (fun k => wa.heap.size ≤ k) (.slice A m c) cols)
    (hG : ∀ (g : Nat) (o : Obj), w.heap[g]? = some o → g ≠ b → w1.heap[g]? = some o)
    (hO : ∀ {β : Type} {d' : Kd β} {e' : Nat} {base' : Nat} {ok' : Nat → Prop} {u : Value} {zs : List β}, Kd.R d' e' w base' ok' u zs → (∀ q, q ∈ e' :: d'.E → q ≠ 45) → Kd.R d' e' w1 base' ok' u zs) : RI wa bx n m A1 A2 c1 c2 spots cols (upd l 7) v55 v56 v57 v58 v59 v60 v61 (.slice A m c) v63 v15 w1 := by
  obtain ⟨bl, s0, s1, s2, s3, s4, s5, s6, s7, s8, s9⟩ := h
  refine ⟨hb, fun e => ?_, s1, s2, fun e => ?_, fun e => ?_, s5, s6, fun _ => ⟨A, c, rfl, hR⟩, fun e => ?_, fun e => ?_⟩
  · obtain ⟨b2, h1, h2, h3⟩ := s0 e
    exact ⟨b2, h1, h2, fun e => hG _ _ (h3 e) (blk_ne (h3 e) hx (by decide))⟩
  · obtain ⟨A, c, h1, h2⟩ := s3 e
    exact ⟨A, c, h1, hO h2 (by decide)⟩
  · obtain ⟨b, h1, h2, _⟩ := s4 e
    exact ⟨b, h1, h2, fun e => upd_no e⟩
  · exact absurd ((show l 8 = true from e).symm.trans h8) (by decide)
  · obtain ⟨g, h1, h2, h3, _⟩ := s9 e
    exact ⟨g, h1, h2, fun e => hG _ _ (h3 e) (blk_ne (h3 e) hx (by decide)), fun e => by rw [show upd l 7 10 = l 10 from rfl, h10] at e; cases e⟩
theorem RI.op10 {g : Nat} (h : RI wa bx n m A1 A2 c1 c2 spots cols l v55 v56 v57 v58 v59 v60 v61 v62 v63 (.pointer (some ⟨g, 0, none⟩)) w) (h9 : l 9 = true) (h10 : l 10 = false) :
    RI wa bx n m A1 A2 c1 c2 spots cols (upd l 10) v55 v56 v57 v58 v59 v60 v61 v62 v63 (.pointer (some ⟨g, 0, none⟩)) (((w.setCell ⟨g, 0, none⟩ (.int .i64 0)).setCell ⟨g, 1, none⟩ v58).setCell ⟨g, 2, none⟩ v62) := by
  obtain ⟨bl, s0, s1, s2, s3, s4, s5, s6, s7, s8, s9⟩ := h
  obtain ⟨g2, e2, hg, hx, _⟩ := s9 h9
  simp only [Value.pointer.injEq, Option.some.injEq, Addr.mk.injEq, and_true] at e2
  obtain rfl := e2
  have hx := hx h10
  have hfar : ∀ {b t : Nat} {cs : Array Value}, w.heap[b]? = some (.cells cs t (0, 0)) → t ≠ 35 → (((w.setCell ⟨g, 0, none⟩ (.int .i64 0)).setCell ⟨g, 1, none⟩ v58).setCell ⟨g, 2, none⟩ v62).heap[b]? = some (.cells cs t (0, 0)) := fun h1 h2 => by
    have hne := blk_ne h1 hx h2
    exact blk_far (blk_far (blk_far h1 (p := ⟨g, 0, none⟩) hne _) (p := ⟨g, 1, none⟩) hne _) (p := ⟨g, 2, none⟩) hne _
  refine ⟨((bl.setCell (p := ⟨g, 0, none⟩) hg _).setCell (p := ⟨g, 1, none⟩) hg _).setCell (p := ⟨g, 2, none⟩) hg _, fun e => ?_, s1, s2, fun e => ?_, fun e => ?_, s5, s6, fun e => ?_, s8, fun e => ?_⟩
  · obtain ⟨b, h1, h2, h3⟩ := s0 e
    exact ⟨b, h1, h2, fun e => hfar (h3 e) (by decide)⟩
  · obtain ⟨A, c, h1, h2⟩ := s3 e
    have q1 := Kd.R_set h2 hx (by decide) 0 (.int .i64 0)
    have q2 := Kd.R_set q1 (blk_set hx 0 (.int .i64 0)) (by decide) 1 v58
    exact ⟨A, c, h1, Kd.R_set q2 (blk_set (blk_set hx 0 (.int .i64 0)) 1 v58) (by decide) 2 v62⟩
  · obtain ⟨b, h1, h2, h3⟩ := s4 e
    exact ⟨b, h1, h2, fun e => hfar (h3 e) (by decide)⟩
  · obtain ⟨A, c, h1, h2⟩ := s7 e
    have q1 := Kd.R_set h2 hx (by decide) 0 (.int .i64 0)
    have q2 := Kd.R_set q1 (blk_set hx 0 (.int .i64 0)) (by decide) 1 v58
    exact ⟨A, c, h1, Kd.R_set q2 (blk_set (blk_set hx 0 (.int .i64 0)) 1 v58) (by decide) 2 v62⟩
  · refine ⟨g, rfl, hg, fun e => upd_no e, fun _ => ?_⟩
    simpa using blk_set (blk_set (blk_set hx 0 (.int .i64 0)) 1 v58) 2 v62
end
/-- a copy of a line, laid since a world -/
structure Copy (W0 W : World) (gx : Nat) (A1 A2 : Option Addr) (c1 c2 n m : Nat) (spots : List S51) (cols : List S45) : Prop where
  bl : Below W0.heap.size W0 W
  ge : W0.heap.size ≤ gx
  bx : W.heap[gx]? = some (.cells #[.int .i64 0, .slice A1 n c1, .slice A2 m c2] 35 (0, 0))
  sp : Kd.R k51 51 W W0.heap.size (fun k => W0.heap.size ≤ k) (.slice A1 n c1) spots
  co : Kd.R k45 45 W W0.heap.size (fun k => W0.heap.size ≤ k) (.slice A2 m c2) cols
/-! behind Lay: what stands below a number of blocks stands as it was -/
theorem kept_of {n : Nat} {W W1 : World} (h : Below n W W1) : Kept W W1 (fun k => n ≤ k) := ⟨h.size, fun i _ hn => h.block i (by omega)⟩
theorem blk_b {n : Nat} {W W1 : World} {g : Nat} {o : Obj} (h : W.heap[g]? = some o) (hb : Below n W W1) (hg : g < n) : W1.heap[g]? = some o := (hb.block g hg).trans h
theorem R_b {α : Type} {d : Kd α} {e base : Nat} {ok : Nat → Prop} {v : Value} {xs : List α} {n : Nat} {W W1 : World} (h : Kd.R d e W base ok v xs) (hb : Below n W W1) (hg : ∀ k, ok k → k < n) : Kd.R d e W1 base ok v xs :=
  Kd.R_kept h (kept_of hb) (fun k hk h2 => by have := hg k hk; omega)
theorem IsCv.b {n : Nat} {W W1 : World} {n₀ : Nat} {c : Cv} {cnt : Nat} {ps : List S45} {ks : List Bool} (h : IsCv W n₀ c cnt ps ks) (hb : Below n W W1) (hg : ∀ k, c.S k → k < n) : IsCv W1 n₀ c cnt ps ks :=
  h.kept (kept_of hb) (fun k hk h2 => by have := hg k hk; omega)
/-- Lay of a copy -/
theorem lay_own {w0 wa wc : World} {c : Cv} {ps : List S45} {ks : List Bool} {gx : Nat} {A5 A6 : Option Addr} {c5 c6 n m : Nat} {spots : List S51} {cols : List S45} (hu : Uno w0 wa c ps ks) (h : Copy wa wc gx A5 A6 c5 c6 n m spots cols) (hn : spots.length = n) (hm : cols.length = m) (hs : n ≤ 3000) {P : Int × Nat × List S45 × List Bool} (hP : layL c.x c.y (cntL ks) ps ks spots cols = P) :
    Calls Try.prog 12 #[.pointer (some ⟨c.g, 0, none⟩), .agg #[.int .i64 0, .slice A5 n c5, .slice A6 m c6]] wc fun e w' => LayP wc w0.heap.size c P e w' := by
  have hv := hu.cv.ext h.bl
  have hb := below_then hu.bl hu.bl.size h.bl
  have hcnt : cntL ks ≤ 1000000 := by have := cntL_le ks; have := hv.lk; have := hv.sz.2.2.2.2; omega
  have hlt := hu.cv.lt
  have hS : ∀ k, wa.heap.size ≤ k → ¬ c.S k := by
    rintro k hk (rfl | rfl | rfl) <;> omega
  rw [← hP]
  by_cases e : n = m
  · subst e
    exact lay_walk hv hb.size 0 A5 A6 c5 c6 spots cols hn hm (by omega) hcnt (Kd.C_kept_own h.sp hS) (Kd.C_kept_own h.co hS)
  · exact lay_len hv hb.size 0 A5 A6 c5 c6 spots cols hn hm e
/-- the copy's colours are written over -/
structure Over (n : Nat) (wL W : World) (gx tb : Nat) (cells : Array Value) (A : Option Addr) (m c : Nat) (t : Nat) (old : List S45) : Prop where
  bl : Below n wL W
  bx : W.heap[gx]? = some (.cells cells tb (0, 0))
  row : ∃ cs : List S45, (∀ j, t ≤ j → cs.getD j z45 = old.getD j z45) ∧ Kd.R k45 45 W n (fun k => n ≤ k) (.slice A m c) cs
theorem Over.at_ {n : Nat} {wL W : World} {gx tb : Nat} {cells : Array Value} {A : Option Addr} {m c t : Nat} {old : List S45} (h : Over n wL W gx tb cells A m c t old) (htb : tb ≠ 45) (ht : t < m) :
    ∃ g, A = some ⟨g, 0, none⟩ ∧ n ≤ g ∧ (W.cell? ⟨g, t * 4, none⟩ = some (.int .u16 (old.getD t z45).f0) ∧ W.cell? ⟨g, t * 4 + 1, none⟩ = some (.int .u16 (old.getD t z45).f1) ∧ W.cell? ⟨g, t * 4 + 2, none⟩ = some (.int .u16 (old.getD t z45).f2) ∧ W.cell? ⟨g, t * 4 + 3, none⟩ = some (.int .u16 (old.getD t z45).f3)) ∧ (W.frozen? ⟨g, t * 4, none⟩ = false ∧ W.frozen? ⟨g, t * 4 + 1, none⟩ = false) ∧
      (∀ v, Over n wL (W.setCell ⟨g, t * 4, none⟩ (.int .u16 v)) gx tb cells A m c (t + 1) old) ∧ (∀ v, Over n wL (W.setCell ⟨g, t * 4 + 1, none⟩ (.int .u16 v)) gx tb cells A m c (t + 1) old) := by
  obtain ⟨bl, bx, cs, hcs, hR⟩ := h
  have hlen := (Kd.R_reads' hR).1
  obtain ⟨g, cap, e, hg, _⟩ := Kd.R_form hR (by omega)
  injection e with e1 e2 e3
  subst e1
  obtain ⟨e, hl, hM, hc, hf⟩ := Kd.R_elem hR z45 (t : Int) (by omega) (by omega)
  have e4 : k45.sz = 4 := rfl
  rw [e4] at hc hf
  simp only [Int.toNat_natCast] at hM hc hf
  obtain rfl := k45_openM hM
  have ht4 := hcs t (Nat.le_refl _)
  have hbx : ∀ j (u : Value), (W.setCell ⟨g, j, none⟩ u).heap[gx]? = some (.cells cells tb (0, 0)) := fun j u => by
    obtain ⟨cc, hcc⟩ := Kd.R_typed hR g rfl
    exact blk_far bx (p := ⟨g, j, none⟩) (blk_ne bx hcc htb) u
  have hgd : ∀ (x : S45) j, t + 1 ≤ j → (cs.set t x).getD j z45 = old.getD j z45 := fun x j hj => by
    rw [List.getD_eq_getElem?_getD, List.getElem?_set_ne (by omega), ← List.getD_eq_getElem?_getD]
    exact hcs j (by omega)
  refine ⟨g, rfl, hg, ⟨?_, ?_, ?_, ?_⟩, ⟨hf 0, hf 1⟩, fun v => ⟨bl.setCell hg _, hbx _ _, cs.set t ⟨v, (cs.getD t z45).f1, (cs.getD t z45).f2, (cs.getD t z45).f3⟩, hgd _, ?_⟩, fun v => ⟨bl.setCell hg _, hbx _ _, cs.set t ⟨(cs.getD t z45).f0, v, (cs.getD t z45).f2, (cs.getD t z45).f3⟩, hgd _, ?_⟩⟩
  · rw [← ht4]; simpa using hc 0 _ rfl
  · rw [← ht4]; simpa using hc 1 _ rfl
  · rw [← ht4]; simpa using hc 2 _ rfl
  · rw [← ht4]; simpa using hc 3 _ rfl
  · have h2 := (Kd.R_seg (okp := fun k => False) hR (t : Int) (by omega) (by omega) (seg := [.int .u16 v]) (j := 0) hl (by rw [e4]; exact hc) (by rw [e4]; simp) (x' := ⟨v, (cs.getD t z45).f1, (cs.getD t z45).f2, (cs.getD t z45).f3⟩) (k45_mkM _ _ _ _) (fun k hk => hk.elim)).1
    rw [e4] at h2
    simpa [World.setCells] using h2
  · have h2 := (Kd.R_seg (okp := fun k => False) hR (t : Int) (by omega) (by omega) (seg := [.int .u16 v]) (j := 1) hl (by rw [e4]; exact hc) (by rw [e4]; simp) (x' := ⟨(cs.getD t z45).f0, v, (cs.getD t z45).f2, (cs.getD t z45).f3⟩) (k45_mkM _ _ _ _) (fun k hk => hk.elim)).1
    rw [e4] at h2
    simpa [World.setCells] using h2
theorem Over.ext {n : Nat} {wL W W1 : World} {gx tb : Nat} {cells : Array Value} {A : Option Addr} {m c t : Nat} {old : List S45} (h : Over n wL W gx tb cells A m c t old) (hn : n ≤ W.heap.size) (hb : Below W.heap.size W W1) : Over n wL W1 gx tb cells A m c t old := by
  obtain ⟨bl, bx, cs, hcs, hR⟩ := h
  exact ⟨bl.trans (hb.mono hn), blk_below bx hb, cs, hcs, Kd.R_below hR hb⟩
theorem Over.set1 {n : Nat} {wL W : World} {gx tb g m c t : Nat} {cells : Array Value} {old : List S45} (h : Over n wL W gx tb cells (some ⟨g, 0, none⟩) m c t old) (htb : tb ≠ 45) (ht : t < m) (hn : n ≤ W.heap.size) (q : Nat) (v : Int) : Over n wL ((W.drewN q).setCell ⟨g, t * 4 + 1, none⟩ (.int .u16 v)) gx tb cells (some ⟨g, 0, none⟩) m c (t + 1) old := by
  obtain ⟨g6, e6, _, _, _, _, hs⟩ := (h.ext hn (pw_below_drewN (Below.refl _ _) q)).at_ htb ht
  obtain rfl : g = g6 := by injection e6 with e6; injection e6
  exact hs v
/-- what Image tells, its length a letter -/
def ImgN (x y n : Nat) (W : World) (ps : List S45) (e : Ending) (W' : World) : Prop :=
  ∃ g c, e = .returned (.agg #[.int .i64 x, .int .i64 y, .slice (some ⟨g, 0, none⟩) n c]) ∧ W.heap.size ≤ g ∧ Kd.R k45 45 W' W.heap.size (fun k => k = g) (.slice (some ⟨g, 0, none⟩) n c) ps ∧ Below W.heap.size W W'
theorem img_n {x y n : Nat} {W W' : World} {ps : List S45} {e : Ending} (hn : ps.length = n) (h : ImgP x y W ps e W') : ImgN x y n W ps e W' := by subst hn; exact h
def CloneN {α : Type} (d : Kd α) (e0 n : Nat) (W : World) (xs : List α) (e : Ending) (W' : World) : Prop :=
  ∃ g c, e = .returned (.slice (some ⟨g, 0, none⟩) n c) ∧ W.heap.size ≤ g ∧ Kd.R d e0 W' W.heap.size (fun k => k = g) (.slice (some ⟨g, 0, none⟩) n c) xs ∧ Below W.heap.size W W'
theorem clone_n {α : Type} {d : Kd α} {e0 n : Nat} {W W' : World} {xs : List α} {e : Ending} (hn : xs.length = n) (h : CloneP d e0 W xs e W') : CloneN d e0 n W xs e W' := by subst hn; exact h
theorem pix_at {W : World} {base g n cp : Nat} {ok : Nat → Prop} {ps : List S45} (h : Kd.R k45 45 W base ok (.slice (some ⟨g, 0, none⟩) n cp) ps) (i : Nat) (hi : i < n) : W.cell? ⟨g, i * 4, none⟩ = some (.int .u16 (ps.getD i z45).f0) ∧ W.cell? ⟨g, i * 4 + 1, none⟩ = some (.int .u16 (ps.getD i z45).f1) ∧ W.cell? ⟨g, i * 4 + 2, none⟩ = some (.int .u16 (ps.getD i z45).f2) ∧ W.cell? ⟨g, i * 4 + 3, none⟩ = some (.int .u16 (ps.getD i z45).f3) := by
  obtain ⟨cs, hl, hM, hc, hf⟩ := Kd.R_elem h z45 (i : Int) (by omega) (by omega)
  have e4 : k45.sz = 4 := rfl
  rw [e4] at hc
  simp only [Int.toNat_natCast] at hM hc
  obtain rfl := k45_openM hM
  exact ⟨by simpa using hc 0 _ rfl, by simpa using hc 1 _ rfl, by simpa using hc 2 _ rfl, by simpa using hc 3 _ rfl⟩
theorem mark_at {W : World} {base g n cp : Nat} {ok : Nat → Prop} {ks : List Bool} (h : Kd.R Kd.bool 4 W base ok (.slice (some ⟨g, 0, none⟩) n cp) ks) (i : Nat) (hi : i < n) : W.cell? ⟨g, i, none⟩ = some (.bool (ks.getD i false)) := by
  obtain ⟨cs, hl, hM, hc, hf⟩ := Kd.R_elem h false (i : Int) (by omega) (by omega)
  have e4 : (Kd.bool).sz = 1 := rfl
  rw [e4] at hc
  simp only [Int.toNat_natCast] at hM hc
  have e : cs = [.bool (ks.getD i false)] := hM
  subst e
  simpa using hc 0 _ rfl
end Go.Proofs.Ytmeafgoifekffaa.Lib
