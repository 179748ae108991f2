/- words that this seat's walks share. -/
import Derived.Test.YtapaodagnpaekaaX
import Derived.Test.YtapaodagnpaekaaP0
namespace Go.Proofs.Ytapaodagnpaekaa.Lib
open Go.RowKit Go.Proofs.YtapaodagnpaekaaW.PrintWords Go.Proofs.YtapaodagnpaekaaW.PrintLast Go.Proofs.YtapaodagnpaekaaW.PrintMore
set_option linter.unusedVariables false
set_option linter.unusedSimpArgs false
theorem with_fact {T G : Prop} (h : T) (k : Aside0 T → G) : G := k ⟨h⟩

theorem lit_R {α : Type} (d : Kd α) {W : World} {base e b : Nat} (h : W.heap[b]? = some (.cells #[] e (0, 0))) (hb : base ≤ b) : Kd.R d e W base (fun k => base ≤ k) (.slice (some ⟨b, 0, none⟩) 0 0) [] :=
  ⟨fun k hk => by simp [Value.ownBlock] at hk; omega, [], ⟨by simp, .inr ⟨b, 0, #[], rfl, hb, h, Nat.le_refl _, Nat.zero_le _, by simp, by simp⟩⟩, Reps.none _ _⟩

theorem new_at (w : World) (o : Obj) {b : Nat} (hb : w.heap.size = b) : (w.alloc o).heap[b]? = some o := by subst hb; exact heap_alloc_new w o

section
variable {P : Program} {ops : Array Oper} {o : Oper} {a : Act} {Q : Exit → Act → World → Prop} {Kc : Act → World → Prop} {α : Type}
/-- append onto an empty literal, of a row that came in: at a step of a region that draws -/
theorem app_lit (d : Kd α) {wa W : World} (hw : Region.wanted o (yielded ops a.tmps) = true) (s x : Operand) (t e : TypeId) (z : Value) (bytes : Nat)
    (ho : o.op = .call { callee := .builtin .append, args := #[s, x], argTypes := #[t, t] })
    (ht : P.underlying t = some (.slice e)) (hinfo : (P.info? e).map (fun i => (i.zero, i.size, i.bytes)) = some (some z, d.sz, bytes)) (hz : z.cells.size = d.sz) (hs0 : 0 < d.sz) (hb0 : 0 < bytes)
    (b : Nat) (ys : List α) (A : Option Addr) (m c : Nat) (hs : a.eval s = .slice (some ⟨b, 0, none⟩) 0 0) (hx : a.eval x = .slice A m c)
    (hL : W.heap[b]? = some (.cells #[] e (0, 0))) (hbb : wa.heap.size ≤ b) (HB : Below wa.heap.size wa W) (HC : Kd.C d wa A m ys) (hKM : ∀ {w base ok x cs}, d.K w x cs → d.M w base ok x cs) (hl : m * bytes ≤ 140737488355328)
    (h : ∀ A1 c1 w1, d.R e w1 wa.heap.size (fun k => wa.heap.size ≤ k) (.slice A1 m c1) ys → Below wa.heap.size wa w1 → (∀ (g : Nat) (o : Obj), W.heap[g]? = some o → g ≠ b → w1.heap[g]? = some o) →
      (∀ {β : Type} {d' : Kd β} {e' : Nat} {base' : Nat} {ok' : Nat → Prop} {u : Value} {zs : List β}, Kd.R d' e' W base' ok' u zs → (∀ q, q ∈ e' :: d'.E → q ≠ e) → Kd.R d' e' w1 base' ok' u zs) → Kc (a.put o.dst (.slice A1 m c1)) w1) :
    if Region.wanted o (yielded ops a.tmps) = true then Oper.wp P o a W Kc Q else Kc (a.put o.dst undef) W := by
  refine Kd.R_append_rows_step d (w0 := wa) wa.heap.size hw s x t e z bytes ho ht hinfo hz hs0 hb0 (.slice (some ⟨b, 0, none⟩) 0 0) [] ys A m c (fun k => wa.heap.size ≤ k) (fun _ => False) hs hx (lit_R d hL hbb) (Kd.C_below HC HB) (fun _ _ h => hKM h) (fun _ h => h.elim) (fun k hk => Nat.le_trans HB.size hk) HB HB.size (by simpa using hl) ?_
  intro v1 w1 ho1 hb1 hg1 _
  rw [List.nil_append] at ho1
  obtain ⟨A1, c1, rfl⟩ := Kd.R_slice ho1
  have hm : ys.length = m := HC.1
  rw [hm] at ho1 ⊢
  exact h A1 c1 w1 ho1 hb1 (fun g o hg hne => blk_grown hg hg1 (by simp [Value.ownBlock]; exact hne)) (fun hr hq => Kd.R_over hr (lit_R d hL hbb) hq hg1)
end

theorem kept_of {n : Nat} {W W1 : World} (h : Below n W W1) : Kept W W1 (fun k => n ≤ k) := ⟨h.size, fun i _ hn => h.block i (by omega)⟩

theorem blk_b {n : Nat} {W W1 : World} {g : Nat} {o : Obj} (h : W.heap[g]? = some o) (hb : Below n W W1) (hg : g < n) : W1.heap[g]? = some o := (hb.block g hg).trans h

theorem R_b {α : Type} {d : Kd α} {e base : Nat} {ok : Nat → Prop} {v : Value} {xs : List α} {n : Nat} {W W1 : World} (h : Kd.R d e W base ok v xs) (hb : Below n W W1) (hg : ∀ k, ok k → k < n) : Kd.R d e W1 base ok v xs :=
  Kd.R_kept h (kept_of hb) (fun k hk h2 => by have := hg k hk; omega)

theorem row_form {α : Type} {d : Kd α} {e : Nat} {W : World} {base : Nat} {ok : Nat → Prop} {v : Value} {xs : List α} {n : Nat} (hl : xs.length = n) (h : Kd.R d e W base ok v xs) : ∃ A c, v = .slice A n c ∧ Kd.R d e W base ok (.slice A n c) xs := by
  obtain ⟨A, c, rfl⟩ := Kd.R_slice h
  subst hl
  exact ⟨A, c, rfl, h⟩

theorem R_keptT {α : Type} {d : Kd α} {e base : Nat} {ok : Nat → Prop} {v : Value} {xs : List α} {W W2 : World} {S : Nat → Prop} (h : Kd.R d e W base ok v xs) (hk : Kept W W2 S) (hS : ∀ k, S k → ∃ cells t, W.heap[k]? = some (.cells cells t (0, 0)) ∧ ∀ q, q ∈ e :: d.E → q ≠ t) : Kd.R d e W2 base ok v xs := by
  refine Kd.R_mono (Kd.R_kept (Kd.R_bound h) hk (fun k hk hs => ?_)) (fun k hk => hk.1)
  obtain ⟨_, _, _, q, hq, cells, hc⟩ := hk
  obtain ⟨cells2, t, hc2, ht⟩ := hS k hs
  rw [hc] at hc2
  injection hc2 with h1
  injection h1 with _ h2
  exact ht q hq h2

theorem wrapI {x : Int} (h1 : -9223372036854775808 ≤ x) (h2 : x ≤ 9223372036854775807) : IntKind.i64.wrap x = x := IntWalk.i64_in _ (by omega)

theorem made_R {α : Type} (d : Kd α) (W : World) (e m : Nat) {z : Value} {z0 : α} (hz : z.cells.size = d.sz) (hs : 0 < d.sz) (h0 : d.M W W.heap.size (fun _ => False) z0 z.cells.toList) (hm : m ≤ 9223372036854775807) :
    d.R e (W.alloc (.cells (madeCells z.cells (m * d.sz)) e)) W.heap.size (fun k => k = W.heap.size) (.slice (some ⟨W.heap.size, 0, none⟩) m m) (List.replicate m z0) := by
  have hrep := Kd.reps_made hz hs h0 m
  refine ⟨fun k hk => by simpa [Value.ownBlock] using hk.symm, (madeCells z.cells (m * d.sz)).toList, ?_, ?_⟩
  · have h2 := World.ownsRow_lit (base := W.heap.size) (e := e) (size := d.sz) W (madeCells z.cells (m * d.sz)) m (Nat.le_refl _) (by simpa [maxLen] using hm) (by simpa using hrep.1)
    simpa using h2
  · exact hrep.imp_ (fun p c hp => d.M_mono (fun k hk => hk.1.elim) (Kd.M_below (d.M_bound hp) (below_alloc (Below.refl _ _) _)))

end Go.Proofs.Ytapaodagnpaekaa.Lib
