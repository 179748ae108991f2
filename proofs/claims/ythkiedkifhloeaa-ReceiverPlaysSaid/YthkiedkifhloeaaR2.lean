/- receiver: the document's New: walked by hand. -/
import Derived.Test.YthkiedkifhloeaaR1
namespace Go.Proofs.Ythkiedkifhloeaa.Lib
open Go.RowKit Go.Proofs.YthkiedkifhloeaaW.PrintWords Go.Proofs.YthkiedkifhloeaaW.PrintLast Go.Proofs.YthkiedkifhloeaaW.PrintMore
attribute [local go_sem] max2_int min2_int max_two min_two max_three min_three max_four min_four
set_option linter.unusedVariables false
set_option linter.unusedSimpArgs false
theorem made_R {α : Type} (d : Kd α) (W : World) (e m : Nat) {z : Value} {z0 : α} (hz : z.cells.size = d.sz) (hs : 0 < d.sz) (h0 : d.M W W.heap.size (fun _ => False) z0 z.cells.toList) (hm : m ≤ 9223372036854775807) :
    d.R e (W.alloc (.cells (madeCells z.cells (m * d.sz)) e)) W.heap.size (fun k => k = W.heap.size) (.slice (some ⟨W.heap.size, 0, none⟩) m m) (List.replicate m z0) := by
  have hrep := Kd.reps_made hz hs h0 m
  refine ⟨fun k hk => by simpa [Value.ownBlock] using hk.symm, (madeCells z.cells (m * d.sz)).toList, ?_, ?_⟩
  · have h2 := World.ownsRow_lit (base := W.heap.size) (e := e) (size := d.sz) W (madeCells z.cells (m * d.sz)) m (Nat.le_refl _) (by simpa [maxLen] using hm) (by simpa using hrep.1)
    simpa using h2
  · exact hrep.imp_ (fun p c hp => d.M_mono (fun k hk => hk.1.elim) (Kd.M_below (d.M_bound hp) (below_alloc (Below.refl _ _) _)))
theorem info4_ : (Try.prog.info? 4).map (fun i => (i.zero, i.size, i.bytes)) = some (some (.bool false), 1, 1) := by kernel_rfl
theorem make22 (n : Nat) (hn : n ≤ 1048577) (w : World) : (Instr.makeSlice 24 (.int .i64 n) (.int .i64 n)).run Try.prog w = .ok (.slice (some ⟨w.heap.size, 0, none⟩) n n) (w.alloc (.cells (madeCells #[.slice none 0 0] n) 22)) := by
  obtain ⟨i0, hi, hz0, hz1, hz2⟩ := info_parts info22
  have h := run_make (P := Try.prog) (w := w) 24 22 i0 _ Try.underlying24 hi hz0 .i64 .i64 (n : Int) (n : Int) (by omega) (by omega) (by rw [hz2]; omega) (by omega)
  rw [hz1] at h
  simp only [Int.toNat_natCast, Nat.mul_one] at h
  exact h
theorem make4 (n : Nat) (hn : n ≤ 1048577) (w : World) : (Instr.makeSlice 45 (.int .i64 n) (.int .i64 n)).run Try.prog w = .ok (.slice (some ⟨w.heap.size, 0, none⟩) n n) (w.alloc (.cells (madeCells #[.bool false] n) 4)) := by
  obtain ⟨i0, hi, hz0, hz1, hz2⟩ := info_parts info4_
  have h := run_make (P := Try.prog) (w := w) 45 4 i0 _ Try.underlying45 hi hz0 .i64 .i64 (n : Int) (n : Int) (by omega) (by omega) (by rw [hz2]; omega) (by omega)
  rw [hz1] at h
  simp only [Int.toNat_natCast, Nat.mul_one] at h
  exact h
theorem made22 (n : Nat) (hn : n ≤ 1048577) (W : World) : Kd.R ksl 22 (W.alloc (.cells (madeCells #[.slice none 0 0] n) 22)) W.heap.size (fun _ => True) (.slice (some ⟨W.heap.size, 0, none⟩) n n) (List.replicate n zh) := by
  have h := made_R ksl W 22 n (z := .slice none 0 0) rfl (by decide) (z0 := zh) rfl (by omega)
  have e : ksl.sz = 1 := rfl
  rw [e, Nat.mul_one] at h
  exact Kd.R_mono h (fun _ _ => trivial)
theorem made4 (n : Nat) (hn : n ≤ 1048577) (W : World) : Kd.R Kd.bool 4 (W.alloc (.cells (madeCells #[.bool false] n) 4)) W.heap.size (fun _ => True) (.slice (some ⟨W.heap.size, 0, none⟩) n n) (List.replicate n false) := by
  have h := made_R Kd.bool W 4 n (z := .bool false) rfl (by decide) (z0 := false) rfl (by omega)
  have e : (Kd.bool).sz = 1 := rfl
  rw [e, Nat.mul_one] at h
  exact Kd.R_mono h (fun _ _ => trivial)
theorem rf_made1 (W : World) (n : Nat) (ww : Int) (hn : n ≤ 1048577) :
    IsRf (((W.alloc (.cells (madeCells #[.slice none 0 0] n) 22)).alloc (.cells (madeCells #[.bool false] n) 4)).alloc (.cells #[.slice (some ⟨W.heap.size, 0, none⟩) n n, .slice (some ⟨W.heap.size + 1, 0, none⟩) n n, .int .i64 ww] 55)) W.heap.size (W.heap.size + 1 + 1) (.slice (some ⟨W.heap.size, 0, none⟩) n n) (.slice (some ⟨W.heap.size + 1, 0, none⟩) n n) n ww (List.replicate n zh) (List.replicate n false) := by
  have p1 := made22 n hn W
  have p2 := made4 n hn (W.alloc (.cells (madeCells #[.slice none 0 0] n) 22))
  simp only [World.size_alloc] at p2
  refine ⟨?_, by omega, ?_, ?_, List.length_replicate, List.length_replicate⟩
  · have h := heap_alloc_new ((W.alloc (.cells (madeCells #[.slice none 0 0] n) 22)).alloc (.cells (madeCells #[.bool false] n) 4)) (.cells #[.slice (some ⟨W.heap.size, 0, none⟩) n n, .slice (some ⟨W.heap.size + 1, 0, none⟩) n n, .int .i64 ww] 55)
    simp only [World.size_alloc] at h
    exact h
  · exact Kd.R_below p1 (below_alloc (below_alloc (Below.refl _ _) _) _)
  · exact Kd.R_lower (Kd.R_below p2 (below_alloc (Below.refl _ _) _)) (by omega)
theorem rf_made2 (W : World) (n : Nat) (ww : Int) (hn : n ≤ 1048577) :
    IsRf (((W.alloc (.cells (madeCells #[.bool false] n) 4)).alloc (.cells (madeCells #[.slice none 0 0] n) 22)).alloc (.cells #[.slice (some ⟨W.heap.size + 1, 0, none⟩) n n, .slice (some ⟨W.heap.size, 0, none⟩) n n, .int .i64 ww] 55)) W.heap.size (W.heap.size + 1 + 1) (.slice (some ⟨W.heap.size + 1, 0, none⟩) n n) (.slice (some ⟨W.heap.size, 0, none⟩) n n) n ww (List.replicate n zh) (List.replicate n false) := by
  have p1 := made4 n hn W
  have p2 := made22 n hn (W.alloc (.cells (madeCells #[.bool false] n) 4))
  simp only [World.size_alloc] at p2
  refine ⟨?_, by omega, ?_, ?_, List.length_replicate, List.length_replicate⟩
  · have h := heap_alloc_new ((W.alloc (.cells (madeCells #[.bool false] n) 4)).alloc (.cells (madeCells #[.slice none 0 0] n) 22)) (.cells #[.slice (some ⟨W.heap.size + 1, 0, none⟩) n n, .slice (some ⟨W.heap.size, 0, none⟩) n n, .int .i64 ww] 55)
    simp only [World.size_alloc] at h
    exact h
  · exact Kd.R_lower (Kd.R_below p2 (below_alloc (Below.refl _ _) _)) (by omega)
  · exact Kd.R_below p1 (below_alloc (below_alloc (Below.refl _ _) _) _)
theorem below_alloc3 (W : World) (o1 o2 o3 : Obj) : Below W.heap.size W (((W.alloc o1).alloc o2).alloc o3) := below_alloc (below_alloc (below_alloc (Below.refl _ _) _) _) _
theorem IsRf.drewN {W : World} {B h : Nat} {vD vC : Value} {n : Nat} {ww : Int} {hs : List Hd} {bs : List Bool} (hf : IsRf W B h vD vC n ww hs bs) (q : Nat) : IsRf (W.drewN q) B h vD vC n ww hs bs := hf.below (pw_below_drewN (Below.refl _ _) q)
set_option maxRecDepth 100000 in
theorem rf_new (n : Nat) (ww : Int) (W : World) (hn : n ≤ 1048577) (hw : 1 ≤ ww ∧ ww ≤ 64) :
    Calls Try.prog 11 #[.int .i64 n, .int .i64 ww] W fun e W' => ∃ h vD vC, e = .returned (.tuple #[.pointer (some ⟨h, 0, none⟩), .int .i64 0]) ∧ IsRf W' W.heap.size h vD vC n ww (List.replicate n zh) (List.replicate n false) ∧ Below W.heap.size W W' := by
  have h1 : decide ((n : Int) < 0) = false := decide_eq_false (by omega)
  have h2 : decide (1048577 < (n : Int)) = false := decide_eq_false (by omega)
  have h3 : decide (ww < 1) = false := decide_eq_false (by omega)
  have h4 : decide (64 < ww) = false := decide_eq_false (by omega)
  go_enter Try.func11, Try.ntmps11
  go_wp2
  have hk22 := make22 n hn
  have hk4 := make4 n hn
  go_region
  all_goals
    clear hk22 hk4
    go_wp2
    go_ret2
  · exact ⟨_, _, _, rfl, (rf_made1 W n ww hn).drewN 1, pw_below_drewN (below_alloc3 _ _ _ _) 1⟩
  · exact ⟨_, _, _, rfl, (rf_made2 W n ww hn).drewN 1, pw_below_drewN (below_alloc3 _ _ _ _) 1⟩
theorem rf_new_bad (n w : Int) (W : World) (h : n < 0 ∨ 1048577 < n ∨ w < 1 ∨ 64 < w) :
    Calls Try.prog 11 #[.int .i64 n, .int .i64 w] W fun e W' => e = .returned (.tuple #[.pointer none, .int .i64 1]) ∧ W' = W := by
  by_cases a1 : n < 0
  · have h1 : decide (n < 0) = true := decide_eq_true a1
    go_enter Try.func11, Try.ntmps11
    go_wp2
    go_ret2
    exact ⟨rfl, rfl⟩
  · have h1 : decide (n < 0) = false := decide_eq_false a1
    by_cases a2 : 1048577 < n
    · have h2 : decide (1048577 < n) = true := decide_eq_true a2
      go_enter Try.func11, Try.ntmps11
      go_wp2
      go_ret2
      exact ⟨rfl, rfl⟩
    · have h2 : decide (1048577 < n) = false := decide_eq_false a2
      by_cases a3 : w < 1
      · have h3 : decide (w < 1) = true := decide_eq_true a3
        go_enter Try.func11, Try.ntmps11
        go_wp2
        go_ret2
        exact ⟨rfl, rfl⟩
      · have h3 : decide (w < 1) = false := decide_eq_false a3
        have h4 : decide (64 < w) = true := decide_eq_true (by omega)
        go_enter Try.func11, Try.ntmps11
        go_wp2
        go_ret2
        exact ⟨rfl, rfl⟩
end Go.Proofs.Ythkiedkifhloeaa.Lib
