/- CanvasWhole: a row of spots, the grids, lines in memory: walked by hand. -/
import Derived.Test.YtmeafgoifekffaaF3
import Derived.Test.YtmeafgoifekffaaP4
import Derived.Test.YtmeafgoifekffaaA5
namespace Go.Proofs.Ytmeafgoifekffaa.Lib
open Go.RowKit Go.Shelf Go.Proofs.YtmeafgoifekffaaW.PrintWords Go.Proofs.YtmeafgoifekffaaW.PrintLast Go.Proofs.YtmeafgoifekffaaW.PrintMore
set_option linter.unusedVariables false
set_option linter.unusedSimpArgs false
theorem row_l0 {a s Y w : Nat} (pass : Int) (hs : 0 < s) (ha : a ≤ 4096) (hs2 : s ≤ 8) (hw : w ≤ 4096) : ∀ (m t : Nat), t + m = num a s w → ∀ k, m < k → halftoneref14_row.l0 k ((a + s * t : Nat) : Int) (Y : Int) (s : Int) (w : Int) pass (rowS a s Y t) = some (pass, rowS a s Y (num a s w))
  | 0, t, h, k + 1, _ => by
    have h1 : ¬ a + s * t < w := fun h2 => by have := (lt_num hs).2 h2; omega
    rw [halftoneref14_row.l0, if_neg (by omega), ← h]
    rfl
  | m + 1, t, h, k + 1, hk => by
    have h1 : a + s * t < w := (lt_num hs).1 (by omega)
    have h2 : t ≤ s * t := Nat.le_mul_of_pos_left _ hs
    rw [halftoneref14_row.l0, if_pos (by omega), if_pos (by rw [rowS_length]; omega), wrap64_in' (by omega) (by omega)]
    have h3 := row_l0 (Y := Y) pass hs ha hs2 hw m (t + 1) (by omega) k (by omega)
    rw [rowS_succ] at h3
    have e : ((a + s * (t + 1) : Nat) : Int) = ((a + s * t : Nat) : Int) + (s : Int) := by rw [Nat.mul_succ]; push_cast; omega
    rw [e] at h3
    exact h3
theorem row_walk (pass : Int) {a s Y w n : Nat} (hs : 0 < s) (ha : a ≤ 4096) (hs2 : s ≤ 8) (hw : w ≤ 4096) (hn : num a s w = n) (W : World) :
    Calls Try.prog 30 #[.int .i64 pass, .int .i64 a, .int .i64 Y, .int .i64 s, .int .i64 w] W fun e w' => ∃ (A : Option Addr) (c : Nat), e = .returned (.agg #[.int .i64 pass, .slice A n c]) ∧ Kd.R k51 51 w' W.heap.size (fun _ => True) (.slice A n c) (rowS a s Y n) ∧ Below W.heap.size W w' := by
  have h := row_l0 (a := a) (s := s) (Y := Y) (w := w) pass hs ha hs2 hw (num a s w) 0 (by omega) (num a s w + 1) (by omega)
  rw [hn, Nat.mul_zero, Nat.add_zero] at h
  refine (halftoneref14_row.calls (n + 1) pass a Y s w pass (rowS a s Y n) W h).mono ?_
  rintro e w' ⟨v, rfl, hR, hb⟩
  obtain ⟨A, c, rfl⟩ := Kd.R_slice hR
  rw [rowS_length] at hR ⊢
  exact ⟨A, c, rfl, hR, hb⟩
/-- a line as it lies -/
structure Ln where
  f0 : Int
  A : Option Addr
  n : Nat
  c : Nat
def zL : Ln := ⟨0, none, 0, 0⟩
def ksl : Kd (Option Addr × Nat × Nat) := Kd.scalar (fun t => .slice t.1 t.2.1 t.2.2) (fun _ => rfl)
def kf : Kd Ln := Kd.iso (Kd.pair (Kd.int .i64) ksl) (fun x => (x.f0, x.A, x.n, x.c))
theorem kf_open {w : World} {x : Ln} {cs : List Value} (h : kf.K w x cs) : cs = [.int .i64 x.f0, .slice x.A x.n x.c] := by
  obtain ⟨_, _, rfl, rfl, rfl⟩ := h
  exact rfl
theorem kf_mkM (w : World) (base : Nat) (ok : Nat → Prop) (x : Ln) : kf.M w base ok x [.int .i64 x.f0, .slice x.A x.n x.c] := ⟨[.int .i64 x.f0], [.slice x.A x.n x.c], rfl, rfl, rfl⟩
theorem kf_KM {w : World} {base : Nat} {ok : Nat → Prop} {x : Ln} {cs : List Value} (h : kf.K w x cs) : kf.M w base ok x cs := by
  obtain rfl := kf_open h
  exact kf_mkM _ _ _ _
theorem kf_at {w : World} {A : Option Addr} {n : Nat} {xs : List Ln} (h : Kd.C kf w A n xs) (i : Nat) (hi : i < n) : ∃ ad, A = some ad ∧ w.cell? (ad.add (i * 2)) = some (.int .i64 (xs.getD i zL).f0) ∧ w.cell? ⟨(ad.add (i * 2)).block, (ad.add (i * 2)).off + 1, none⟩ = some (.slice (xs.getD i zL).A (xs.getD i zL).n (xs.getD i zL).c) := by
  obtain ⟨ad, c, e, _, hK, hc0⟩ := Kd.C_get h zL (i : Int) (by omega) (by omega)
  simp only [Int.toNat_natCast] at hK hc0
  have hc : ∀ j u, c[j]? = some u → w.cell? (ad.add (i * 2 + j)) = some u := hc0
  obtain rfl := kf_open hK
  exact ⟨ad, e, hc 0 _ rfl, by rw [← add_field _ _ 1 (by omega)]; exact hc 1 _ rfl⟩
theorem info49_ : (Try.prog.info? 49).map (fun i => (i.zero, i.size, i.bytes)) = some (some (.agg #[.int .i64 0, .slice none 0 0]), 2, 32) := by kernel_rfl
/-- lines in memory: their row, and each one's spots -/
structure LS (W : World) (base : Nat) (v : Value) (ts : List Ln) (ls : List (List S51)) : Prop where
  row : Kd.R kf 49 W base (fun _ => True) v ts
  len : ts.length = ls.length
  sp : ∀ j, j < ls.length → Kd.R k51 51 W base (fun _ => True) (.slice (ts.getD j zL).A (ts.getD j zL).n (ts.getD j zL).c) (ls.getD j [])
theorem LS.nil (W : World) (base : Nat) : LS W base (.slice none 0 0) [] [] := ⟨Kd.R_nil _ _ _ _ _, rfl, fun j hj => absurd hj (Nat.not_lt_zero _)⟩
theorem LS.ext {W W1 : World} {base : Nat} {v : Value} {ts : List Ln} {ls : List (List S51)} (h : LS W base v ts ls) (hb : Below W.heap.size W W1) : LS W1 base v ts ls := ⟨Kd.R_below h.row hb, h.len, fun j hj => Kd.R_below (h.sp j hj) hb⟩
theorem LS.push {W w1 w2 : World} {base : Nat} {v v2 : Value} {ts : List Ln} {ls : List (List S51)} (h : LS W base v ts ls) (hb : base ≤ W.heap.size) (hb1 : Below W.heap.size W w1) {t : Ln} {spots : List S51} (hs : Kd.R k51 51 w1 W.heap.size (fun _ => True) (.slice t.A t.n t.c) spots)
    (ho : Kd.R kf 49 w2 base (fun _ => True) v2 (ts ++ [t])) (hg : w1.grownBy w2 v.ownBlock) : LS w2 base v2 (ts ++ [t]) (ls ++ [spots]) := by
  have hr := (h.ext hb1).row
  refine ⟨ho, by simp [h.len], fun j hj => ?_⟩
  rw [List.length_append, List.length_singleton] at hj
  rcases Nat.lt_or_ge j ls.length with h1 | h1
  · have e1 : (ts ++ [t]).getD j zL = ts.getD j zL := by rw [List.getD_eq_getElem?_getD, List.getElem?_append_left (by rw [h.len]; exact h1), ← List.getD_eq_getElem?_getD]
    have e2 : (ls ++ [spots]).getD j [] = ls.getD j [] := by rw [List.getD_eq_getElem?_getD, List.getElem?_append_left h1, ← List.getD_eq_getElem?_getD]
    rw [e1, e2]
    exact Kd.R_over ((h.ext hb1).sp j h1) hr (by decide) hg
  · obtain rfl : j = ls.length := by omega
    have e1 : (ts ++ [t]).getD ls.length zL = t := by rw [← h.len, List.getD_eq_getElem?_getD, List.getElem?_append_right (Nat.le_refl _), Nat.sub_self]; rfl
    have e2 : (ls ++ [spots]).getD ls.length [] = spots := by rw [List.getD_eq_getElem?_getD, List.getElem?_append_right (Nat.le_refl _), Nat.sub_self]; rfl
    rw [e1, e2]
    exact Kd.R_over (Kd.R_lower hs hb) hr (by decide) hg
set_option maxHeartbeats 4000000 in
set_option maxRecDepth 100000 in
theorem grid_walk (p : Nat) (h1 : 1 ≤ p) (h7 : p ≤ 7) (W : World) {gx gy dx dy : Nat} (hg : gridL.getD (p - 1) (0, 0, 1, 1) = (gx, gy, dx, dy)) :
    Calls Try.prog 31 #[.int .i64 p] W fun e w' => e = .returned (.agg #[.int .i64 gx, .int .i64 gy, .int .i64 dx, .int .i64 dy]) ∧ Below W.heap.size W w' := by
  obtain rfl | rfl | rfl | rfl | rfl | rfl | rfl : p = 1 ∨ p = 2 ∨ p = 3 ∨ p = 4 ∨ p = 5 ∨ p = 6 ∨ p = 7 := by omega
  all_goals
    simp [gridL] at hg
    have HG := Aside0.mk hg
    clear h1 h7 hg
    go_enter Try.func31, Try.ntmps31
    go_wp2
    refine bodyPost_ret (v := .agg #[.int .i64 gx, .int .i64 gy, .int .i64 dx, .int .i64 dy]) ?_ rfl ⟨rfl, ((Below.refl _ _).alloc (Nat.le_refl _) _).alloc (by simp) _⟩
    obtain ⟨⟨rfl, rfl, rfl, rfl⟩⟩ := HG
    simp [results, Try.results31, go_sem]
end Go.Proofs.Ytmeafgoifekffaa.Lib
