/- CanvasWhole: the lines of a picture, each place once, in plain Lean. -/
import Derived.Test.YtmeafgoifekffaaP2
namespace Go.Proofs.Ytmeafgoifekffaa.Lib
open Go.RowKit Go.Shelf Go.Proofs.YtmeafgoifekffaaW.PrintWords Go.Proofs.YtmeafgoifekffaaW.PrintLast Go.Proofs.YtmeafgoifekffaaW.PrintMore
set_option linter.unusedVariables false
set_option linter.unusedSimpArgs false
/-- t numbers from a on, by steps -/
def stp (a s t : Nat) : List Nat := (List.range t).map fun i => a + s * i
/-- how many of them are below w -/
def num (a s w : Nat) : Nat := (w - a + s - 1) / s
theorem stp_succ (a s t : Nat) : stp a s (t + 1) = stp a s t ++ [a + s * t] := by simp [stp, List.range_succ]
theorem lt_num {a s w t : Nat} (hs : 0 < s) : t < num a s w ↔ a + s * t < w := by
  unfold num
  rw [← Nat.succ_le_iff, Nat.le_div_iff_mul_le hs, Nat.succ_mul, Nat.mul_comm t s]
  omega
theorem count_stp {a s : Nat} (hs : a < s) (X : Nat) : ∀ t, (stp a s t).count X = if X % s = a ∧ X / s < t then 1 else 0
  | 0 => by simp [stp]
  | t + 1 => by
    rw [stp_succ, List.count_append, count_stp hs X t, List.count_singleton]
    have e1 : X = X % s + s * (X / s) := (Nat.mod_add_div X s).symm
    by_cases h : a + s * t = X
    · have h1 : X % s = a := by rw [← h, Nat.add_mul_mod_self_left, Nat.mod_eq_of_lt hs]
      have h2 : X / s = t := by rw [← h, Nat.add_mul_div_left _ _ (by omega), Nat.div_eq_of_lt hs, Nat.zero_add]
      rw [if_neg (by omega), if_pos (by simpa using h), if_pos ⟨h1, by omega⟩]
    · rw [if_neg (show ¬ ((a + s * t == X) = true) by simpa using h)]
      by_cases h1 : X % s = a ∧ X / s < t
      · rw [if_pos h1, if_pos ⟨h1.1, by omega⟩]
      · rw [if_neg h1, if_neg]
        rintro ⟨h2, h3⟩
        by_cases h4 : X / s = t
        · exact h (by rw [← h2, ← h4]; exact e1.symm)
        · exact h1 ⟨h2, by omega⟩
theorem count_stp_num {a s : Nat} (hs : a < s) (X w : Nat) : (stp a s (num a s w)).count X = if X % s = a ∧ X < w then 1 else 0 := by
  rw [count_stp hs]
  have e1 : X = X % s + s * (X / s) := (Nat.mod_add_div X s).symm
  by_cases h : X % s = a
  · have h2 : X / s < num a s w ↔ X < w := by rw [lt_num (by omega), ← h, ← e1]
    simp only [h, h2, true_and]
  · simp [h]
theorem mem_stp {a s w X : Nat} (hs : 0 < s) (h : X ∈ stp a s (num a s w)) : X < w := by
  obtain ⟨i, hi, rfl⟩ := List.mem_map.1 h
  exact (lt_num hs).1 (List.mem_range.1 hi)
theorem stp_length (a s t : Nat) : (stp a s t).length = t := by simp [stp]
/-- a row of spots -/
def rowS (a s Y t : Nat) : List S51 := (stp a s t).map fun X : Nat => (⟨(X : Int), (Y : Int)⟩ : S51)
theorem rowS_length (a s Y t : Nat) : (rowS a s Y t).length = t := by simp [rowS, stp_length]
theorem rowS_succ (a s Y t : Nat) : rowS a s Y (t + 1) = rowS a s Y t ++ [(⟨((a + s * t : Nat) : Int), (Y : Int)⟩ : S51)] := by simp [rowS, stp_succ]
/-- the rows of a pass -/
def passL (x y : Nat) (g : Nat × Nat × Nat × Nat) : List (List S51) := if g.1 < x then (stp g.2.1 g.2.2.2 (num g.2.1 g.2.2.2 y)).map fun Y => rowS g.1 g.2.2.1 Y (num g.1 g.2.2.1 x) else []
theorem plc_in {x y X Y : Nat} (hX : X < x) (hY : Y < y) : plc x y ⟨(X : Int), (Y : Int)⟩ = ((Y * x + X : Nat) : Int) := by
  unfold plc placeL
  rw [if_pos (show 0 ≤ (X : Int) ∧ (X : Int) < x ∧ 0 ≤ (Y : Int) ∧ (Y : Int) < y from ⟨by omega, by omega, by omega, by omega⟩)]
  push_cast
  rfl
theorem spots_row {x y a s Y : Nat} (hs : 0 < s) (hY : Y < y) : spotsIn x y (rowS a s Y (num a s x)) = (stp a s (num a s x)).map fun X => Y * x + X := by
  unfold spotsIn rowS
  rw [List.map_map]
  refine List.map_congr_left fun X hX => ?_
  show (plc x y ⟨(X : Int), (Y : Int)⟩).toNat = _
  rw [plc_in (mem_stp hs hX) hY, Int.toNat_natCast]
theorem out_row {x y a s Y : Nat} (hs : 0 < s) (hY : Y < y) : outB x y (rowS a s Y (num a s x)) = false := by
  rw [Bool.eq_false_iff]
  intro h
  obtain ⟨q, hq, hd⟩ := List.any_eq_true.1 h
  obtain ⟨X, hX, rfl⟩ := List.mem_map.1 hq
  rw [plc_in (mem_stp hs hX) hY] at hd
  have := of_decide_eq_true hd
  omega
theorem count_row (x Y p : Nat) : ∀ l : List Nat, (∀ X ∈ l, X < x) → (l.map fun X => Y * x + X).count p = if p / x = Y then l.count (p % x) else 0
  | [], _ => by simp
  | X :: l, h => by
    have hX := h X (by simp)
    rw [List.map_cons, List.count_cons, List.count_cons, count_row x Y p l (fun X hX => h X (List.mem_cons_of_mem _ hX))]
    have e : (Y * x + X == p) = (decide (p / x = Y) && (X == p % x)) := by
      rw [Bool.eq_iff_iff]
      simp only [beq_iff_eq, Bool.and_eq_true, decide_eq_true_eq]
      constructor
      · rintro rfl
        rw [Nat.mul_comm Y x, Nat.mul_add_div (by omega), Nat.mul_add_mod, Nat.div_eq_of_lt hX, Nat.mod_eq_of_lt hX]
        exact ⟨rfl, rfl⟩
      · rintro ⟨rfl, rfl⟩
        rw [Nat.mul_comm]
        exact Nat.div_add_mod p x
    by_cases h1 : p / x = Y
    · simp [h1, e]
    · simp [h1, e]
theorem sum_if (q c : Nat) : ∀ l : List Nat, (l.map fun Y => if q = Y then c else 0).sum = l.count q * c
  | [] => by simp
  | Y :: l => by
    rw [List.map_cons, List.sum_cons, sum_if q c l, List.count_cons]
    by_cases h : q = Y
    · subst h
      simp [Nat.add_mul, Nat.add_comm]
    · have h2 : ¬ Y = q := fun e => h e.symm
      simp [h, h2]
theorem count_flat (p : Nat) (f : List S51 → List Nat) : ∀ L : List (List S51), (L.flatMap f).count p = (L.map fun s => (f s).count p).sum
  | [] => by simp
  | s :: L => by rw [List.flatMap_cons, List.count_append, count_flat p f L, List.map_cons, List.sum_cons]
theorem count_pass {x y : Nat} (g : Nat × Nat × Nat × Nat) (hx : g.1 < g.2.2.1) (hy : g.2.1 < g.2.2.2) (p : Nat) (hp : p < x * y) :
    ((passL x y g).flatMap (spotsIn x y)).count p = if (p % x) % g.2.2.1 = g.1 ∧ (p / x) % g.2.2.2 = g.2.1 then 1 else 0 := by
  obtain ⟨gx, gy, dx, dy⟩ := g
  simp only at hx hy ⊢
  have hx0 : 0 < x := by rcases Nat.eq_zero_or_pos x with rfl | h; (· simp at hp); exact h
  have hy2 : p / x < y := Nat.div_lt_of_lt_mul hp
  have hx2 : p % x < x := Nat.mod_lt _ hx0
  unfold passL
  simp only
  by_cases hg : gx < x
  · rw [if_pos hg, count_flat, List.map_map]
    have e : (stp gy dy (num gy dy y)).map ((fun s => (spotsIn x y s).count p) ∘ fun Y => rowS gx dx Y (num gx dx x)) = (stp gy dy (num gy dy y)).map fun Y => if p / x = Y then (stp gx dx (num gx dx x)).count (p % x) else 0 := by
      refine List.map_congr_left fun Y hY => ?_
      show (spotsIn x y (rowS gx dx Y (num gx dx x))).count p = _
      rw [spots_row (by omega) (mem_stp (by omega) hY), count_row x Y p _ (fun X hX => mem_stp (by omega) hX)]
    rw [e, sum_if, count_stp_num hy, count_stp_num hx]
    by_cases h1 : (p % x) % dx = gx <;> by_cases h2 : (p / x) % dy = gy <;> simp [h1, h2, hx2, hy2]
  · rw [if_neg hg]
    have h1 : ¬ (p % x) % dx = gx := fun h => by
      rw [Nat.mod_eq_of_lt (by omega)] at h
      omega
    simp [h1]
/-- all lines, pass by pass -/
def allL (x y : Nat) (gs : List (Nat × Nat × Nat × Nat)) : List (List S51) := gs.flatMap (passL x y)
def gridL : List (Nat × Nat × Nat × Nat) := [(0, 0, 8, 8), (4, 0, 8, 8), (0, 4, 4, 8), (2, 0, 4, 4), (0, 2, 2, 4), (1, 0, 2, 2), (0, 1, 1, 2)]
def weaveL : List (Nat × Nat × Nat × Nat) := [(0, 0, 1, 8), (0, 4, 1, 8), (0, 2, 1, 4), (0, 1, 1, 2)]
def plainL : List (Nat × Nat × Nat × Nat) := [(0, 0, 1, 1)]
def gridsOf (laced woven : Bool) : List (Nat × Nat × Nat × Nat) := if laced = true then (if woven = true then weaveL else gridL) else plainL
theorem count_all (x y p : Nat) (hp : p < x * y) : ∀ gs : List (Nat × Nat × Nat × Nat), (∀ g ∈ gs, g.1 < g.2.2.1 ∧ g.2.1 < g.2.2.2) → ((allL x y gs).flatMap (spotsIn x y)).count p = (gs.map fun g => if (p % x) % g.2.2.1 = g.1 ∧ (p / x) % g.2.2.2 = g.2.1 then 1 else 0).sum
  | [], _ => by simp [allL]
  | g :: gs, h => by
    have h1 := h g (by simp)
    unfold allL
    rw [List.flatMap_cons, List.flatMap_append, List.count_append, count_pass g h1.1 h1.2 p hp, List.map_cons, List.sum_cons]
    exact congrArg _ (count_all x y p hp gs (fun g hg => h g (List.mem_cons_of_mem _ hg)))
theorem once8 : ∀ a : Nat, a < 8 → ∀ b : Nat, b < 8 → ∀ la wo : Bool, ((gridsOf la wo).map fun g => if a % g.2.2.1 = g.1 ∧ b % g.2.2.2 = g.2.1 then 1 else 0).sum = 1 := by decide
theorem grids_ok : ∀ la wo : Bool, ∀ g ∈ gridsOf la wo, g.1 < g.2.2.1 ∧ g.2.1 < g.2.2.2 ∧ g.2.2.1 ∣ 8 ∧ g.2.2.2 ∣ 8 ∧ g.1 ≤ 4 ∧ g.2.1 ≤ 4 := by decide
theorem once (x y p : Nat) (hp : p < x * y) (la wo : Bool) : ((allL x y (gridsOf la wo)).flatMap (spotsIn x y)).count p = 1 := by
  rw [count_all x y p hp _ (fun g hg => ⟨(grids_ok la wo g hg).1, (grids_ok la wo g hg).2.1⟩)]
  refine Eq.trans ?_ (once8 ((p % x) % 8) (Nat.mod_lt _ (by decide)) ((p / x) % 8) (Nat.mod_lt _ (by decide)) la wo)
  refine congrArg List.sum ?_
  refine List.map_congr_left fun g hg => ?_
  obtain ⟨_, _, h3, h4, _⟩ := grids_ok la wo g hg
  rw [Nat.mod_mod_of_dvd _ h3, Nat.mod_mod_of_dvd _ h4]
theorem all_in {x y : Nat} {la wo : Bool} {s : List S51} (hs : s ∈ allL x y (gridsOf la wo)) : outB x y s = false ∧ 0 < s.length ∧ s.length ≤ x := by
  obtain ⟨g, hg, h1⟩ := List.mem_flatMap.1 hs
  obtain ⟨g1, g2, _⟩ := grids_ok la wo g hg
  obtain ⟨gx, gy, dx, dy⟩ := g
  simp only at g1 g2
  unfold passL at h1
  simp only at h1
  by_cases h : gx < x
  · rw [if_pos h] at h1
    obtain ⟨Y, hY, rfl⟩ := List.mem_map.1 h1
    refine ⟨out_row (by omega) (mem_stp (by omega) hY), ?_, ?_⟩
    · rw [rowS_length]
      exact (lt_num (by omega)).2 (by omega)
    · rw [rowS_length]
      rcases Nat.lt_or_ge x (num gx dx x) with h2 | h2
      · have h3 := (lt_num (a := gx) (t := x) (w := x) (by omega : 0 < dx)).1 h2
        have h4 : 1 * x ≤ dx * x := Nat.mul_le_mul_right _ (by omega)
        omega
      · exact h2
  · rw [if_neg h] at h1
    cases h1
end Go.Proofs.Ytmeafgoifekffaa.Lib
