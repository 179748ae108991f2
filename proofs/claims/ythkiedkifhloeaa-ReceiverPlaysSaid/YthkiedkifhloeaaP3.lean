/- ReceiverPlays, plain: what the document holds and ranges. -/
import Derived.Test.YthkiedkifhloeaaP2
import Derived.Test.YthkiedkifhloeaaV4
namespace Go.Proofs.Ythkiedkifhloeaa.Lib
open Go.RowKit
set_option linter.unusedVariables false
/-- the flags from nx on, those before t -/
def keysU (bs : List Bool) (nx t : Nat) : List Int := (List.range t).filterMap fun j => if nx ≤ j ∧ bs.getD j false = true then some (j : Int) else none
theorem keysU_zero (bs : List Bool) (nx : Nat) : keysU bs nx nx = [] := by
  unfold keysU
  rw [List.filterMap_eq_nil_iff]
  intro j hj
  rw [List.mem_range] at hj
  rw [if_neg (by omega)]
theorem keysU_yes {bs : List Bool} {nx t : Nat} (h : nx ≤ t) (hb : bs.getD t false = true) : keysU bs nx (t + 1) = keysU bs nx t ++ [(t : Int)] := by
  unfold keysU
  rw [List.range_succ, List.filterMap_append, List.filterMap_cons, if_pos ⟨h, hb⟩]
  rfl
theorem keysU_no {bs : List Bool} {nx t : Nat} (hb : bs.getD t false = false) : keysU bs nx (t + 1) = keysU bs nx t := by
  unfold keysU
  rw [List.range_succ, List.filterMap_append, List.filterMap_cons, if_neg (by rw [hb]; simp)]
  simp
theorem keysU_len (bs : List Bool) (nx t : Nat) : (keysU bs nx t).length ≤ t := by
  have h := List.length_filterMap_le (fun j => if nx ≤ j ∧ bs.getD j false = true then some (j : Int) else none) (List.range t)
  rw [List.length_range] at h
  exact h
theorem keysU_mem (bs : List Bool) (nx t : Nat) (i : Int) : i ∈ keysU bs nx t ↔ ∃ j : Nat, (j : Int) = i ∧ j < t ∧ nx ≤ j ∧ bs.getD j false = true := by
  unfold keysU
  rw [List.mem_filterMap]
  constructor
  · rintro ⟨j, hj, h⟩
    split at h
    · rename_i q
      exact ⟨j, Option.some.inj h, List.mem_range.1 hj, q⟩
    · cases h
  · rintro ⟨j, rfl, h1, h2⟩
    exact ⟨j, List.mem_range.2 h1, by rw [if_pos h2]⟩
theorem keysU_asc (bs : List Bool) (nx t : Nat) : (keysU bs nx t).Pairwise (· < ·) := by
  unfold keysU
  rw [List.pairwise_filterMap]
  refine List.Pairwise.imp ?_ List.pairwise_lt_range
  intro a b hab x hx y hy
  simp only [Option.ite_none_right_eq_some] at hx hy
  obtain ⟨_, hx⟩ := hx
  obtain ⟨_, hy⟩ := hy
  have h1 := Option.some.inj hx
  have h2 := Option.some.inj hy
  omega
theorem asc_ext : ∀ (a b : List Int), a.Pairwise (· < ·) → b.Pairwise (· < ·) → (∀ i, i ∈ a ↔ i ∈ b) → a = b
  | [], [], _, _, _ => rfl
  | [], y :: b, _, _, h => absurd ((h y).2 List.mem_cons_self) List.not_mem_nil
  | x :: a, [], _, _, h => absurd ((h x).1 List.mem_cons_self) List.not_mem_nil
  | x :: a, y :: b, ha, hb, h => by
    obtain ⟨a1, a2⟩ := List.pairwise_cons.1 ha
    obtain ⟨b1, b2⟩ := List.pairwise_cons.1 hb
    have e : x = y := by
      rcases List.mem_cons.1 ((h x).1 List.mem_cons_self) with e | h1
      · exact e
      · rcases List.mem_cons.1 ((h y).2 List.mem_cons_self) with e | h2
        · exact e.symm
        · have := b1 x h1
          have := a1 y h2
          omega
    subst e
    rw [asc_ext a b a2 b2 (fun i => by
      have := h i
      simp only [List.mem_cons] at this
      constructor
      · intro hi
        rcases this.1 (.inr hi) with e | e
        · subst e
          have := a1 _ hi
          omega
        · exact e
      · intro hi
        rcases this.2 (.inr hi) with e | e
        · subst e
          have := b1 _ hi
          omega
        · exact e)]
theorem PO.keys {n nx : Nat} {w : Int} {L : List (Int × List Int)} {bs : List Bool} {cb : List (List Int)} (h : PO n w (nx : Int) L bs cb) : keysU bs nx n = L.map Prod.fst := by
  refine asc_ext _ _ (keysU_asc _ _ _) (List.pairwise_map.2 h.b.asc) (fun i => ?_)
  rw [keysU_mem, List.mem_map]
  constructor
  · rintro ⟨j, rfl, h1, h2, h3⟩
    rcases (h.iff j h1).1 h3 with q | q
    · omega
    · cases hf : atF L (j : Int) with
      | none => rw [hf] at q; cases q
      | some y => exact ⟨_, atF_mem _ _ _ hf, rfl⟩
  · rintro ⟨x, hx, rfl⟩
    have h1 := h.b.lo x hx
    have h2 := h.b.hi x hx
    obtain ⟨j, hj⟩ : ∃ j : Nat, (j : Int) = x.1 := ⟨x.1.toNat, by omega⟩
    refine ⟨j, hj, by omega, by omega, (h.iff j (by omega)).2 (.inr ?_)⟩
    cases hf : atF L (j : Int) with
    | none => exact absurd hj.symm (atF_none _ _ hf x hx)
    | some y => rfl
/-- one more flag among the document's ranges -/
def rgS (out : List (Int × Int)) (i : Int) : List (Int × Int) := if 0 < out.length ∧ (out.getD (out.length - 1) z2).2 = i then out.set (out.length - 1) ((out.getD (out.length - 1) z2).1, i + 1) else out ++ [(i, i + 1)]
theorem rgS_len (out : List (Int × Int)) (i : Int) : out.length ≤ (rgS out i).length ∧ (rgS out i).length ≤ out.length + 1 := by
  unfold rgS
  split
  · rw [List.length_set]; omega
  · rw [List.length_append, List.length_singleton]; omega
theorem rgF_len : ∀ (ks : List Int) (out : List (Int × Int)), (ks.foldl rgS out).length ≤ out.length + ks.length
  | [], out => by simp
  | i :: ks, out => by
    have h1 := rgF_len ks (rgS out i)
    have h2 := rgS_len out i
    rw [List.foldl_cons, List.length_cons]
    omega
theorem rgF_take5 : ∀ (ks : List Int) (out : List (Int × Int)), 5 ≤ out.length → (ks.foldl rgS out).take 4 = out.take 4
  | [], out, _ => rfl
  | i :: ks, out, h => by
    have h2 := rgS_len out i
    rw [List.foldl_cons, rgF_take5 ks _ (by omega)]
    unfold rgS
    split
    · rw [List.take_set_of_le (by omega)]
    · rw [List.take_append_of_le_length (by omega)]
theorem rgF_take : ∀ (ks : List Int) (out : List (Int × Int)), out.length ≤ 4 → (ks.foldl rgS out).take 4 = rgL ks out
  | [], out, h => by
    show out.take 4 = out
    rw [List.take_of_length_le h]
  | i :: ks, out, h => by
    rw [List.foldl_cons, rgL_cons]
    by_cases e : 0 < out.length ∧ (out.getD (out.length - 1) z2).2 = i
    · have e2 : rgS out i = out.set (out.length - 1) ((out.getD (out.length - 1) z2).1, i + 1) := by unfold rgS; rw [if_pos e]
      rw [if_pos e, e2]
      exact rgF_take ks _ (by rw [List.length_set]; exact h)
    · have e2 : rgS out i = out ++ [(i, i + 1)] := by unfold rgS; rw [if_neg e]
      rw [if_neg e, e2]
      by_cases e4 : out.length = 4
      · rw [if_pos e4, rgF_take5 _ _ (by rw [List.length_append, List.length_singleton]; omega), List.take_append_of_le_length (by omega), List.take_of_length_le h]
      · rw [if_neg e4]
        exact rgF_take ks _ (by rw [List.length_append, List.length_singleton]; omega)
end Go.Proofs.Ythkiedkifhloeaa.Lib
