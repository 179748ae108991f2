/- CanvasStays: what Lay leaves as it was, in plain Lean. -/
import Derived.Test.YtmeafgoifekffaaA2
namespace Go.Proofs.Ytmeafgoifekffaa.Lib
open Go.RowKit Go.Shelf Go.Proofs.YtmeafgoifekffaaW.PrintWords Go.Proofs.YtmeafgoifekffaaW.PrintLast Go.Proofs.YtmeafgoifekffaaW.PrintMore
set_option linter.unusedVariables false
set_option linter.unusedSimpArgs false
theorem put_other (ps : List S45) (l : List Nat) (cs : List S45) (i : Nat) (hi : ∀ j, j < l.length → l.getD j 0 ≠ i) (hc : l.length = cs.length) : ∀ t, t ≤ l.length → (putL ps (l.take t) (cs.take t)).getD i z45 = ps.getD i z45
  | 0, _ => by simp [putL]
  | t + 1, h => by
    rw [putL_snoc ps l cs t (by omega) (by omega), List.getD_eq_getElem?_getD, List.getElem?_set_ne (hi t (by omega)), ← List.getD_eq_getElem?_getD]
    exact put_other ps l cs i hi hc t (by omega)
theorem lay_keep {x y n cnt : Nat} (hn : x * y = n) (ps : List S45) (ks : List Bool) (spots : List S51) (cols : List S45) (i : Nat) (hi : ks.getD i false = true) : (layL x y cnt ps ks spots cols).2.2.1.getD i z45 = ps.getD i z45 := by
  unfold layL
  by_cases h1 : spots.length ≠ cols.length ∨ outB x y spots = true
  · rw [if_pos h1]
  · rw [if_neg h1]
    by_cases h2 : clash ks (spotsIn x y spots) = true
    · rw [if_pos h2]
    · rw [if_neg h2]
      have h5 : spots.length = cols.length := by
        by_cases e : spots.length = cols.length
        · exact e
        · exact absurd (.inl e) h1
      have h4 := put_other ps (spotsIn x y spots) cols i (fun j hj e => h2 (clash_at (i := j) hj (by rw [e, markL_getD, hi, Bool.or_true]))) (by rw [spotsIn_length]; exact h5) _ (Nat.le_refl _)
      rw [List.take_length, spotsIn_length, h5, List.take_length] at h4
      exact h4
theorem lay_refused {x y cnt : Nat} (ps : List S45) (ks : List Bool) (spots : List S51) (cols : List S45) (h : (layL x y cnt ps ks spots cols).1 ≠ 0) : (layL x y cnt ps ks spots cols).2 = (cnt, ps, ks) := by
  unfold layL at h ⊢
  by_cases h1 : spots.length ≠ cols.length ∨ outB x y spots = true
  · rw [if_pos h1]
  · rw [if_neg h1] at h ⊢
    by_cases h2 : clash ks (spotsIn x y spots) = true
    · rw [if_pos h2]
    · rw [if_neg h2] at h
      exact absurd rfl h
theorem lay_taken {x y cnt : Nat} (ps : List S45) (ks : List Bool) (spots : List S51) (cols : List S45) (h : (layL x y cnt ps ks spots cols).1 = 0) : (layL x y cnt ps ks spots cols).2.1 = cnt + spots.length := by
  unfold layL at h ⊢
  by_cases h1 : spots.length ≠ cols.length ∨ outB x y spots = true
  · rw [if_pos h1] at h
    exact absurd h (by simp)
  · rw [if_neg h1] at h ⊢
    by_cases h2 : clash ks (spotsIn x y spots) = true
    · rw [if_pos h2] at h
      exact absurd h (by simp)
    · rw [if_neg h2]
end Go.Proofs.Ytmeafgoifekffaa.Lib
