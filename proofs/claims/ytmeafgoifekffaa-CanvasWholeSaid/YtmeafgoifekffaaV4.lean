/- canvas: New refused, Clone, Image, Mask: walked by hand. -/
import Derived.Test.YtmeafgoifekffaaV3
import Derived.Deep.RegionHeld3
namespace Go.Proofs.Ytmeafgoifekffaa.Lib
open Go.RowKit Go.Proofs.YtmeafgoifekffaaW.PrintWords Go.Proofs.YtmeafgoifekffaaW.PrintLast Go.Proofs.YtmeafgoifekffaaW.PrintMore
attribute [local go_sem] max2_mx min2_mn max_two min_two
set_option linter.unusedVariables false
set_option linter.unusedSimpArgs false
set_option maxRecDepth 100000 in
theorem new_bad (a b : Int) (W : World) (h : ¬ CvOk a b) :
    Calls Try.prog 9 #[.int .i64 a, .int .i64 b] W fun e w' => e = .returned (.tuple #[.pointer none, .int .i64 1]) ∧ W = w' := by
  by_cases c1 : mn a b < 1
  · have d1 := decide_eq_true c1
    go_enter Try.func9, Try.ntmps9
    go_wp2
    go_ret2
    exact ⟨rfl, rfl⟩
  · have d1 := decide_eq_false c1
    by_cases c2 : 2048 < mx a b
    · have d2 := decide_eq_true c2
      go_enter Try.func9, Try.ntmps9
      go_wp2
      go_ret2
      exact ⟨rfl, rfl⟩
    · have d2 := decide_eq_false c2
      have hab : 1 ≤ a ∧ a ≤ 2048 ∧ 1 ≤ b ∧ b ≤ 2048 := by
        unfold mn at c1
        unfold mx at c2
        split at c1 <;> split at c2 <;> omega
      obtain ⟨h1, h2, h3, h4⟩ := hab
      have p1 : 0 ≤ a * b := Int.mul_nonneg (by omega) (by omega)
      have p2 : a * b ≤ 2048 * 2048 := Int.mul_le_mul h2 h4 (by omega) (by omega)
      have d3 : decide (65536 < a * b) = true := decide_eq_true (by
        rcases Int.lt_or_le 65536 (a * b) with h5 | h5
        · exact h5
        · exact absurd ⟨h1, h2, h3, h4, h5⟩ h)
      clear h c1 c2
      go_enter Try.func9, Try.ntmps9
      go_wp2
      go_ret2
      exact ⟨rfl, rfl⟩
theorem k45_KM {w : World} {base : Nat} {ok : Nat → Prop} {x : S45} {cs : List Value} (h : k45.K w x cs) : k45.M w base ok x cs := by
  obtain rfl := k45_open h
  exact k45_mkM _ _ _ _
/-- what Clone tells -/
def CloneP {α : Type} (d : Kd α) (e0 : Nat) (W : World) (xs : List α) (e : Ending) (W' : World) : Prop :=
  ∃ g c, e = .returned (.slice (some ⟨g, 0, none⟩) xs.length c) ∧ W.heap.size ≤ g ∧ Kd.R d e0 W' W.heap.size (fun k => k = g) (.slice (some ⟨g, 0, none⟩) xs.length c) xs ∧ Below W.heap.size W W'
theorem clone_of {α : Type} {d : Kd α} {e0 : Nat} {W W' : World} {xs : List α} {v : Value} (hE : d.E = []) (hp : 0 < xs.length) (h : Kd.R d e0 W' W.heap.size (fun k => W.heap.size ≤ k) v ([] ++ xs)) (hb : Below W.heap.size W W') : CloneP d e0 W xs (.returned v) W' := by
  rw [List.nil_append] at h
  obtain ⟨g, c, rfl, hg, _⟩ := Kd.R_form h hp
  exact ⟨g, c, rfl, hg, Kd.R_mono (Kd.R_tight hE h) (fun k hk => by simpa [Value.ownBlock] using hk), hb⟩
set_option maxRecDepth 100000 in
theorem clone45 (W : World) (ad : Addr) (n c : Nat) (ps : List S45) (hn : 0 < n) (hs : n ≤ 65536) (hl : ps.length = n) (h : Kd.C k45 W (some ad) n ps) :
    Calls Try.prog 32 #[.slice (some ad) n c] W fun e W' => CloneP k45 45 W ps e W' := by
  have H := Aside0.mk h
  have HL := Aside0.mk hl
  clear h hl
  have hq := Lib.run_eql_slice_nil (P := Try.prog) (t := 33)
  go_enter Try.func32, Try.ntmps32
  go_wp2_with (first
    | ((with_reducible refine gate_dst (N := 5) rfl ?_); refine Kd.R_lit k45 _ 45 ?hg (N := 5) ?hd (xs := ([] : List S45)) (inner := []) (ok := fun k => W.heap.size ≤ k) (okp := fun k => W.heap.size ≤ k) ?hr ?hp (fun _ hk => hk) (Nat.le_refl _) (Below.refl _ _) (Nat.le_refl _) (by simp) ?_; (case hd => rfl); (case hg => rfl); (case hr => first | (go_simp; done) | (go_simp; rfl)); (case hp => exact (Reps.none _ _)); intro v1 w1 ho1 hb1 hg_ hnew_; clear hg_ hnew_)
    | (at_builtin; refine Kd.R_append_rows k45 (w0 := W) W.heap.size rfl (.tmp 5) (.tmp 6) 33 45 (.agg #[.int .u16 0, .int .u16 0, .int .u16 0, .int .u16 0]) 8 rfl Try.underlying33 info45_ rfl (by decide) (by decide) v1 [] ps _ _ _ (fun k => W.heap.size ≤ k) (fun _ => False) rfl rfl ho1 (Kd.C_below H.out hb1) (fun _ _ h => k45_KM h) (fun _ h => h.elim) (fun k hk => Nat.le_trans hb1.size hk) hb1 hb1.size (by simp; omega) ?_; intro v2 w2 ho2 hb2 hg2 hat2; clear hg2 hat2))
  go_ret
  exact clone_of rfl (by rw [HL.out]; exact hn) ho2 hb2
set_option maxRecDepth 100000 in
theorem clone4 (W : World) (ad : Addr) (n c : Nat) (ks : List Bool) (hn : 0 < n) (hs : n ≤ 65536) (hl : ks.length = n) (h : Kd.C Kd.bool W (some ad) n ks) :
    Calls Try.prog 34 #[.slice (some ad) n c] W fun e W' => CloneP Kd.bool 4 W ks e W' := by
  have H := Aside0.mk h
  have HL := Aside0.mk hl
  clear h hl
  have hq := Lib.run_eql_slice_nil (P := Try.prog) (t := 56)
  go_enter Try.func34, Try.ntmps34
  go_wp2_with (first
    | ((with_reducible refine gate_dst (N := 5) rfl ?_); refine Kd.R_lit Kd.bool _ 4 ?hg (N := 5) ?hd (xs := ([] : List Bool)) (inner := []) (ok := fun k => W.heap.size ≤ k) (okp := fun k => W.heap.size ≤ k) ?hr ?hp (fun _ hk => hk) (Nat.le_refl _) (Below.refl _ _) (Nat.le_refl _) (by simp) ?_; (case hd => rfl); (case hg => rfl); (case hr => first | (go_simp; done) | (go_simp; rfl)); (case hp => exact (Reps.none _ _)); intro v1 w1 ho1 hb1 hg_ hnew_; clear hg_ hnew_)
    | (at_builtin; refine Kd.R_append_rows Kd.bool (w0 := W) W.heap.size rfl (.tmp 5) (.tmp 6) 56 4 (.bool false) 1 rfl Try.underlying56 info4_ rfl (by decide) (by decide) v1 [] ks _ _ _ (fun k => W.heap.size ≤ k) (fun _ => False) rfl rfl ho1 (Kd.C_below H.out hb1) (fun _ _ h => h) (fun _ h => h.elim) (fun k hk => Nat.le_trans hb1.size hk) hb1 hb1.size (by simp; omega) ?_; intro v2 w2 ho2 hb2 hg2 hat2; clear hg2 hat2))
  go_ret
  exact clone_of rfl (by rw [HL.out]; exact hn) ho2 hb2
set_option maxRecDepth 100000 in
theorem mask_walk {W : World} {n₀ : Nat} {c : Cv} {cnt : Nat} {ps : List S45} {ks : List Bool} (h : IsCv W n₀ c cnt ps ks) (hn : 0 < c.n) :
    Calls Try.prog 22 #[.pointer (some ⟨c.g, 0, none⟩)] W fun e W' => CloneP Kd.bool 4 W ks e W' := by
  have hc := blk_cell h.blk 4
  have HC := Aside0.mk (clone4 W ⟨c.gk, 0, none⟩ c.n c.ck ks hn h.sz.2.2.2.2 h.lk.symm (by have h1 := (Kd.R_reads' h.kn).2.2; rw [← h.lk] at h1; exact h1))
  clear h
  go_enter Try.func22, Try.ntmps22
  go_wp2_with (go_at_call 34; refine HC.out.mono ?_; rintro e w1 ⟨g, cp, rfl, hg, ho, hb⟩)
  go_ret
  exact ⟨g, cp, rfl, hg, ho, hb⟩
set_option maxRecDepth 100000 in
theorem mask_nil (W : World) : Calls Try.prog 22 #[.pointer none] W fun e W' => e = .returned (.slice none 0 0) ∧ W = W' := by
  go_enter Try.func22, Try.ntmps22
  go_wp2
  go_ret
  exact ⟨rfl, rfl⟩
theorem new_then {W w1 : World} {o : Obj} (hb : Below (W.alloc o).drew.heap.size (W.alloc o).drew w1) : Below W.heap.size W w1 ∧ w1.heap[W.heap.size]? = some o :=
  ⟨below_then (below_drew ((Below.refl _ _).alloc (Nat.le_refl _) _)) (show W.heap.size ≤ (W.alloc o).heap.size by simp) hb, blk_below (show (W.alloc o).drew.heap[W.heap.size]? = some o from heap_alloc_new W o) hb⟩
/-- what Image tells -/
def ImgP (x y : Nat) (W : World) (ps : List S45) (e : Ending) (W' : World) : Prop :=
  ∃ g c, e = .returned (.agg #[.int .i64 x, .int .i64 y, .slice (some ⟨g, 0, none⟩) ps.length c]) ∧ W.heap.size ≤ g ∧ Kd.R k45 45 W' W.heap.size (fun k => k = g) (.slice (some ⟨g, 0, none⟩) ps.length c) ps ∧ Below W.heap.size W W'
set_option maxRecDepth 100000 in
theorem image_nil (W : World) : Calls Try.prog 20 #[.pointer none] W fun e W' => e = .returned (.agg #[.int .i64 0, .int .i64 0, .slice none 0 0]) ∧ Below W.heap.size W W' := by
  go_enter Try.func20, Try.ntmps20
  go_wp2
  exact bodyPost_ret (v := .agg #[.int .i64 0, .int .i64 0, .slice none 0 0]) (by simp [results, Try.results20, go_sem]) rfl ⟨rfl, (Below.refl _ _).alloc (Nat.le_refl _) _⟩
set_option maxRecDepth 100000 in
theorem image_walk {W : World} {n₀ : Nat} {c : Cv} {cnt : Nat} {ps : List S45} {ks : List Bool} (h : IsCv W n₀ c cnt ps ks) (hn : 0 < c.n) :
    Calls Try.prog 20 #[.pointer (some ⟨c.g, 0, none⟩)] W fun e W' => ImgP c.x c.y W ps e W' := by
  have hc0 := blk_cell h.blk 0
  have hc1 := blk_cell h.blk 1
  have hc3 := blk_cell h.blk 3
  have hgl := h.lt.1
  have HC := Aside0.mk (fun W' (hb : Below W.heap.size W W') => clone45 W' ⟨c.gp, 0, none⟩ c.n c.cp ps hn h.sz.2.2.2.2 h.lp.symm (by have h1 := (Kd.R_reads' h.pix).2.2; rw [← h.lp] at h1; exact Kd.C_below h1 hb))
  have HL := Aside0.mk h.lp
  have hS : ∀ W', Below W.heap.size W W' → W'.cell? ⟨c.g, 0, none⟩ = some (.int .i64 c.x) ∧ W'.cell? ⟨c.g, 1, none⟩ = some (.int .i64 c.y) ∧ W'.cell? ⟨c.g, 3, none⟩ = some (.slice (some ⟨c.gp, 0, none⟩) c.n c.cp) := fun W' hb => ⟨pw_cell_below hb hc0, pw_cell_below hb hc1, pw_cell_below hb hc3⟩
  have HS := Aside0.mk hS
  clear h hS
  go_enter Try.func20, Try.ntmps20
  go_wp2
  go_region_held3 (fun w' => w'.cell? ⟨c.g, 0, none⟩ = some (.int .i64 c.x) ∧ w'.cell? ⟨c.g, 1, none⟩ = some (.int .i64 c.y) ∧ w'.cell? ⟨c.g, 3, none⟩ = some (.slice (some ⟨c.gp, 0, none⟩) c.n c.cp)) (exact HS.out _ (by repeat (first | exact Below.refl _ _ | exact below_drew ((Below.refl _ _).alloc (Nat.le_refl _) _) | exact HB.out | (refine Below.setCell ?_ (by simp) _)))) (first
    | (go_at_call 32; refine (HC.out _ ?s1).mono ?_; (case s1 => exact below_drew ((Below.refl _ _).alloc (Nat.le_refl _) _)); rintro e w1 ⟨g, cp, rfl, hg, ho, hb⟩; obtain ⟨hB1, hB⟩ := new_then hb; have HB := Aside0.mk hB1; have hr0 := blk_cell hB 0; have hr1 := blk_cell hB 1; have hr2 := blk_cell hB 2; have hf0 := blk_frozen hB 0; have hf1 := blk_frozen hB 1; have hf2 := blk_frozen hB 2))
  have hg2 : W.heap.size + 1 ≤ g := by simpa using hg
  go_wp2
  refine bodyPost_ret (v := .agg #[.int .i64 c.x, .int .i64 c.y, .slice (some ⟨g, 0, none⟩) ps.length cp]) (by simp [results, Try.results20, go_sem, hr0, hr1, hr2, hf0, hf1, hf2]) rfl ⟨g, cp, rfl, by omega, ?_, ((HB.out.setCell (p := ⟨W.heap.size, 0, none⟩) (Nat.le_refl _) _).setCell (p := ⟨W.heap.size, 1, none⟩) (Nat.le_refl _) _).setCell (p := ⟨W.heap.size, 2, none⟩) (Nat.le_refl _) _⟩
  have hne : ∀ j k, k = g → k ≠ (⟨W.heap.size, j, none⟩ : Addr).block := fun j k e => by
    show k ≠ W.heap.size
    omega
  exact Kd.R_far (Kd.R_far (Kd.R_far (Kd.R_lower ho (by simp)) (hne 0) _) (hne 1) _) (hne 2) _
end Go.Proofs.Ytmeafgoifekffaa.Lib
