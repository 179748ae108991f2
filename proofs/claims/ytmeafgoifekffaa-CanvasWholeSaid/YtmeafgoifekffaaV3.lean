/- canvas: New, Clone, Image, Mask: walked by hand. -/
import Derived.Test.YtmeafgoifekffaaV2
import Derived.Deep.RegionLaw
import Derived.WalkSpells
namespace Go.Proofs.Ytmeafgoifekffaa.Lib
open Go.RowKit Go.Proofs.YtmeafgoifekffaaW.PrintWords Go.Proofs.YtmeafgoifekffaaW.PrintLast Go.Proofs.YtmeafgoifekffaaW.PrintMore
theorem max2_mx (k k' : IntKind) (x y : Int) : Builtin.max2 (.int k x) (.int k' y) = pure (.int k (mx x y)) := max2_int k k' x y
theorem min2_mn (k k' : IntKind) (x y : Int) : Builtin.min2 (.int k x) (.int k' y) = pure (.int k (mn x y)) := min2_int k k' x y
attribute [local go_sem] max2_mx min2_mn max_two min_two
set_option linter.unusedVariables false
set_option linter.unusedSimpArgs false
theorem info45_ : (Try.prog.info? 45).map (fun i => (i.zero, i.size, i.bytes)) = some (some (.agg #[.int .u16 0, .int .u16 0, .int .u16 0, .int .u16 0]), 4, 8) := by kernel_rfl
theorem info4_ : (Try.prog.info? 4).map (fun i => (i.zero, i.size, i.bytes)) = some (some (.bool false), 1, 1) := by kernel_rfl
def CvOk (a b : Int) : Prop := 1 ≤ a ∧ a ≤ 2048 ∧ 1 ≤ b ∧ b ≤ 2048 ∧ a * b ≤ 65536
theorem wrapI {x : Int} (h1 : -9223372036854775808 ≤ x) (h2 : x ≤ 9223372036854775807) : IntKind.i64.wrap x = x := IntWalk.i64_in _ (by omega)
/-- what make lays is a row -/
theorem made_R {α : Type} (d : Kd α) (W : World) (e m : Nat) {z : Value} {z0 : α} (hz : z.cells.size = d.sz) (hs : 0 < d.sz) (h0 : d.M W W.heap.size (fun _ => False) z0 z.cells.toList) (hm : m ≤ 9223372036854775807) :
    d.R e (W.alloc (.cells (madeCells z.cells (m * d.sz)) e)) W.heap.size (fun k => k = W.heap.size) (.slice (some ⟨W.heap.size, 0, none⟩) m m) (List.replicate m z0) := by
  have hrep := Kd.reps_made hz hs h0 m
  refine ⟨fun k hk => by simpa [Value.ownBlock] using hk.symm, (madeCells z.cells (m * d.sz)).toList, ?_, ?_⟩
  · have h2 := World.ownsRow_lit (base := W.heap.size) (e := e) (size := d.sz) W (madeCells z.cells (m * d.sz)) m (Nat.le_refl _) (by simpa [maxLen] using hm) (by simpa using hrep.1)
    simpa using h2
  · exact hrep.imp_ (fun p c hp => d.M_mono (fun k hk => hk.1.elim) (Kd.M_below (d.M_bound hp) (below_alloc (Below.refl _ _) _)))
theorem make45 (n : Nat) (hn : n ≤ 65536) (w : World) : (Instr.makeSlice 33 (.int .i64 n) (.int .i64 n)).run Try.prog w = .ok (.slice (some ⟨w.heap.size, 0, none⟩) n n) (w.alloc (.cells (madeCells #[.int .u16 0, .int .u16 0, .int .u16 0, .int .u16 0] (n * 4)) 45)) := by
  obtain ⟨i0, hi, hz0, hz1, hz2⟩ := info_parts info45_
  have h := run_make (P := Try.prog) (w := w) 33 45 i0 _ Try.underlying33 hi hz0 .i64 .i64 (n : Int) (n : Int) (by omega) (by omega) (by rw [hz2]; omega) (by omega)
  rw [hz1] at h
  simp only [Int.toNat_natCast] at h
  exact h
theorem make4 (n : Nat) (hn : n ≤ 65536) (w : World) : (Instr.makeSlice 56 (.int .i64 n) (.int .i64 n)).run Try.prog w = .ok (.slice (some ⟨w.heap.size, 0, none⟩) n n) (w.alloc (.cells (madeCells #[.bool false] n) 4)) := by
  obtain ⟨i0, hi, hz0, hz1, hz2⟩ := info_parts info4_
  have h := run_make (P := Try.prog) (w := w) 56 4 i0 _ Try.underlying56 hi hz0 .i64 .i64 (n : Int) (n : Int) (by omega) (by omega) (by rw [hz2]; omega) (by omega)
  rw [hz1] at h
  simp only [Int.toNat_natCast, Nat.mul_one] at h
  exact h
theorem made45 (n : Nat) (hn : n ≤ 65536) (W : World) : Kd.R k45 45 (W.alloc (.cells (madeCells #[.int .u16 0, .int .u16 0, .int .u16 0, .int .u16 0] (n * 4)) 45)) W.heap.size (fun k => k = W.heap.size) (.slice (some ⟨W.heap.size, 0, none⟩) n n) (List.replicate n z45) :=
  made_R k45 W 45 n (z := .agg #[.int .u16 0, .int .u16 0, .int .u16 0, .int .u16 0]) rfl (by decide) (k45_mkM _ _ _ z45) (by omega)
theorem made4 (n : Nat) (hn : n ≤ 65536) (W : World) : Kd.R Kd.bool 4 (W.alloc (.cells (madeCells #[.bool false] n) 4)) W.heap.size (fun k => k = W.heap.size) (.slice (some ⟨W.heap.size, 0, none⟩) n n) (List.replicate n false) := by
  have h := made_R Kd.bool W 4 n (z := .bool false) rfl (by decide) (z0 := false) rfl (by omega)
  have e : (Kd.bool).sz = 1 := rfl
  rw [e, Nat.mul_one] at h
  exact h
theorem cv_made1 (W : World) (x y n : Nat) (hn : x * y = n) (hx : 1 ≤ x ∧ x ≤ 2048 ∧ 1 ≤ y ∧ y ≤ 2048 ∧ n ≤ 65536) :
    IsCv (((W.alloc (.cells (madeCells #[.int .u16 0, .int .u16 0, .int .u16 0, .int .u16 0] (n * 4)) 45)).alloc (.cells (madeCells #[.bool false] n) 4)).alloc (.cells #[.int .i64 x, .int .i64 y, .int .i64 0, .slice (some ⟨W.heap.size, 0, none⟩) n n, .slice (some ⟨W.heap.size + 1, 0, none⟩) n n] 64)) W.heap.size ⟨W.heap.size + 1 + 1, W.heap.size, W.heap.size + 1, n, n, x, y⟩ 0 (List.replicate n z45) (List.replicate n false) := by
  obtain ⟨h1, h2, h3, h4, h5⟩ := hx
  have p1 := made45 n h5 W
  have p2 := made4 n h5 (W.alloc (.cells (madeCells #[.int .u16 0, .int .u16 0, .int .u16 0, .int .u16 0] (n * 4)) 45))
  have eN : (⟨W.heap.size + 1 + 1, W.heap.size, W.heap.size + 1, n, n, x, y⟩ : Cv).n = n := hn
  simp only [World.size_alloc] at p2
  refine ⟨?_, ?_, ?_, by simp; omega, by rw [eN]; exact ⟨h1, h2, h3, h4, h5⟩⟩
  · rw [eN]
    simpa using heap_alloc_new ((W.alloc (.cells (madeCells #[.int .u16 0, .int .u16 0, .int .u16 0, .int .u16 0] (n * 4)) 45)).alloc (.cells (madeCells #[.bool false] n) 4)) _
  · rw [eN]
    exact Kd.R_alloc (Kd.R_alloc p1 _) _
  · rw [eN]
    exact Kd.R_alloc (Kd.R_lower p2 (Nat.le_succ _)) _
theorem cv_made2 (W : World) (x y n : Nat) (hn : x * y = n) (hx : 1 ≤ x ∧ x ≤ 2048 ∧ 1 ≤ y ∧ y ≤ 2048 ∧ n ≤ 65536) :
    IsCv (((W.alloc (.cells (madeCells #[.bool false] n) 4)).alloc (.cells (madeCells #[.int .u16 0, .int .u16 0, .int .u16 0, .int .u16 0] (n * 4)) 45)).alloc (.cells #[.int .i64 x, .int .i64 y, .int .i64 0, .slice (some ⟨W.heap.size + 1, 0, none⟩) n n, .slice (some ⟨W.heap.size, 0, none⟩) n n] 64)) W.heap.size ⟨W.heap.size + 1 + 1, W.heap.size + 1, W.heap.size, n, n, x, y⟩ 0 (List.replicate n z45) (List.replicate n false) := by
  obtain ⟨h1, h2, h3, h4, h5⟩ := hx
  have p1 := made4 n h5 W
  have p2 := made45 n h5 (W.alloc (.cells (madeCells #[.bool false] n) 4))
  have eN : (⟨W.heap.size + 1 + 1, W.heap.size + 1, W.heap.size, n, n, x, y⟩ : Cv).n = n := hn
  simp only [World.size_alloc] at p2
  refine ⟨?_, ?_, ?_, by simp; omega, by rw [eN]; exact ⟨h1, h2, h3, h4, h5⟩⟩
  · rw [eN]
    simpa using heap_alloc_new ((W.alloc (.cells (madeCells #[.bool false] n) 4)).alloc (.cells (madeCells #[.int .u16 0, .int .u16 0, .int .u16 0, .int .u16 0] (n * 4)) 45)) _
  · rw [eN]
    exact Kd.R_alloc (Kd.R_lower p2 (Nat.le_succ _)) _
  · rw [eN]
    exact Kd.R_alloc (Kd.R_alloc p1 _) _
theorem below_alloc3 (W : World) (a b c : Obj) : Below W.heap.size W (((W.alloc a).alloc b).alloc c) := (((Below.refl _ _).alloc (Nat.le_refl _) _).alloc (by simp) _).alloc (by simp; omega) _
set_option maxRecDepth 100000 in
theorem new_walk (n₀ : Nat) (x y : Nat) (W : World) (h : CvOk x y) (hn₀ : n₀ ≤ W.heap.size) :
    Calls Try.prog 9 #[.int .i64 x, .int .i64 y] W fun e w' => ∃ c : Cv, e = .returned (.tuple #[.pointer (some ⟨c.g, 0, none⟩), .int .i64 0]) ∧ c.x = x ∧ c.y = y ∧ IsCv w' W.heap.size c 0 (List.replicate c.n z45) (List.replicate c.n false) ∧ Below W.heap.size W w' := by
  obtain ⟨h1, h2, h3, h4, h5⟩ := h
  obtain ⟨n, hn⟩ : ∃ n, x * y = n := ⟨_, rfl⟩
  have hni : (x : Int) * y = n := by rw [← hn]; push_cast; rfl
  have hw2 : (n : Int).toNat = n := by simp
  have hw : IntKind.i64.wrap (n : Int) = n := wrapI (by omega) (by omega)
  have hn1 : 1 ≤ n := by rw [← hn]; exact Nat.mul_pos (by omega) (by omega)
  have hn2 : n ≤ 65536 := by omega
  have d1 : decide (mn x y < 1) = false := decide_eq_false (by unfold mn; split <;> omega)
  have d2 : decide (2048 < mx x y) = false := decide_eq_false (by unfold mx; split <;> omega)
  have d3 : decide (65536 < (n : Int)) = false := decide_eq_false (by omega)
  have HN := Aside0.mk hn
  clear hn h5
  go_enter Try.func9, Try.ntmps9
  go_wp2
  have hk45 := make45 n hn2
  have hk4 := make4 n hn2
  go_region
  all_goals
    clear hk45 hk4
    go_wp2
    go_ret2
  · exact ⟨⟨W.heap.size + 1 + 1, W.heap.size, W.heap.size + 1, n, n, x, y⟩, rfl, rfl, rfl, HN.out ▸ (cv_made1 W x y _ rfl ⟨by omega, by omega, by omega, by omega, by rw [HN.out]; omega⟩).drewN 1, pw_below_drewN (below_alloc3 _ _ _ _) 1⟩
  · exact ⟨⟨W.heap.size + 1 + 1, W.heap.size + 1, W.heap.size, n, n, x, y⟩, rfl, rfl, rfl, HN.out ▸ (cv_made2 W x y _ rfl ⟨by omega, by omega, by omega, by omega, by rw [HN.out]; omega⟩).drewN 1, pw_below_drewN (below_alloc3 _ _ _ _) 1⟩
end Go.Proofs.Ytmeafgoifekffaa.Lib
