/- what Lay does to a canvas, in plain Lean. -/
import Derived.Test.YtmeafgoifekffaaV2
namespace Go.Proofs.Ytmeafgoifekffaa.Lib
open Go.RowKit Go.Proofs.YtmeafgoifekffaaW.PrintWords Go.Proofs.YtmeafgoifekffaaW.PrintLast Go.Proofs.YtmeafgoifekffaaW.PrintMore
set_option linter.unusedVariables false
set_option linter.unusedSimpArgs false
/-- where a spot stands -/
def plc (x y : Nat) (s : S51) : Int := placeL x y s.f0 s.f1
def spotsIn (x y : Nat) (l : List S51) : List Nat := l.map fun s => (plc x y s).toNat
def markL (ks : List Bool) (l : List Nat) : List Bool := l.foldl (fun k p => k.set p true) ks
def unmarkL (ks : List Bool) (l : List Nat) : List Bool := l.foldl (fun k p => k.set p false) ks
/-- does a place stand there that is known, or stood there before? -/
def clash (ks : List Bool) (l : List Nat) : Bool := (List.range l.length).any fun i => (markL ks (l.take i)).getD (l.getD i 0) false
def putL (ps : List S45) (l : List Nat) (cs : List S45) : List S45 := (l.zip cs).foldl (fun p kc => p.set kc.1 kc.2) ps
def outB (x y : Nat) (spots : List S51) : Bool := spots.any fun s => decide (plc x y s < 0)
/-- Lay: what it tells, how many are known, the pixels, which are known -/
def layL (x y cnt : Nat) (ps : List S45) (ks : List Bool) (spots : List S51) (cols : List S45) : Int × Nat × List S45 × List Bool :=
  if spots.length ≠ cols.length ∨ outB x y spots = true then (1, cnt, ps, ks)
  else if clash ks (spotsIn x y spots) = true then (10, cnt, ps, ks)
  else (0, cnt + spots.length, putL ps (spotsIn x y spots) cols, markL ks (spotsIn x y spots))
theorem take_snoc_nat (l : List Nat) (i : Nat) (h : i < l.length) : l.take (i + 1) = l.take i ++ [l.getD i 0] := by
  rw [List.take_succ_eq_append_getElem h, List.getD_eq_getElem?_getD, List.getElem?_eq_getElem h, Option.getD_some]
theorem markL_snoc (ks : List Bool) (l : List Nat) (i : Nat) (h : i < l.length) : markL ks (l.take (i + 1)) = (markL ks (l.take i)).set (l.getD i 0) true := by
  rw [take_snoc_nat l i h]; simp [markL]
theorem unmarkL_snoc (ks : List Bool) (l : List Nat) (i : Nat) (h : i < l.length) : unmarkL ks (l.take (i + 1)) = (unmarkL ks (l.take i)).set (l.getD i 0) false := by
  rw [take_snoc_nat l i h]; simp [unmarkL]
theorem getD_set_b (l : List Bool) (i j : Nat) (b : Bool) : (l.set i b).getD j false = if i = j ∧ i < l.length then b else l.getD j false := by
  rw [List.getD_eq_getElem?_getD, List.getElem?_set, List.getD_eq_getElem?_getD]
  by_cases h : i = j
  · subst h
    by_cases h2 : i < l.length
    · simp [h2]
    · simp [h2]
  · simp [h]
theorem markL_length (ks : List Bool) (l : List Nat) : (markL ks l).length = ks.length := by
  unfold markL
  induction l generalizing ks with
  | nil => rfl
  | cons a l ih => rw [List.foldl_cons, ih]; simp
theorem unmarkL_length (ks : List Bool) (l : List Nat) : (unmarkL ks l).length = ks.length := by
  unfold unmarkL
  induction l generalizing ks with
  | nil => rfl
  | cons a l ih => rw [List.foldl_cons, ih]; simp
theorem markL_getD (ks : List Bool) (l : List Nat) (q : Nat) : (markL ks l).getD q false = (decide (q ∈ l ∧ q < ks.length) || ks.getD q false) := by
  unfold markL
  induction l generalizing ks with
  | nil => simp
  | cons a l ih =>
    rw [List.foldl_cons, ih, getD_set_b]
    simp only [List.length_set, List.mem_cons]
    by_cases h : a = q
    · subst h
      by_cases h2 : a < ks.length
      · simp [h2]
      · simp [h2]
    · have h' : ¬ q = a := fun e => h e.symm
      simp [h, h']
theorem unmarkL_getD (ks : List Bool) (l : List Nat) (q : Nat) : (unmarkL ks l).getD q false = (!decide (q ∈ l) && ks.getD q false) := by
  unfold unmarkL
  induction l generalizing ks with
  | nil => simp
  | cons a l ih =>
    rw [List.foldl_cons, ih, getD_set_b]
    simp only [List.mem_cons]
    by_cases h : a = q
    · subst h
      by_cases h2 : a < ks.length
      · simp [h2]
      · have : ks.getD a false = false := by rw [List.getD_eq_getElem?_getD, List.getElem?_eq_none (by omega)]; rfl
        rw [if_neg (fun h => h2 h.2), this]; simp
    · have h' : ¬ q = a := fun e => h e.symm
      simp [h, h']
theorem ext_getD_b (a b : List Bool) (hl : a.length = b.length) (h : ∀ q, a.getD q false = b.getD q false) : a = b := by
  apply List.ext_getElem hl
  intro i h1 h2
  have := h i
  rw [List.getD_eq_getElem?_getD, List.getElem?_eq_getElem h1, List.getD_eq_getElem?_getD, List.getElem?_eq_getElem h2] at this
  exact this
/-- marked and struck again: as it was -/
theorem unmark_all (ks : List Bool) (l : List Nat) (i : Nat) (hi : i ≤ l.length) (h : ∀ j, j < i → (markL ks (l.take j)).getD (l.getD j 0) false = false) : unmarkL (markL ks (l.take i)) (l.take i) = ks := by
  refine ext_getD_b _ _ (by rw [unmarkL_length, markL_length]) (fun q => ?_)
  rw [unmarkL_getD, markL_getD]
  by_cases hq : q ∈ l.take i
  · obtain ⟨j, hj, e⟩ := List.getElem_of_mem hq
    rw [List.length_take] at hj
    have hj2 : j < l.length := by omega
    have h1 := h j (by omega)
    rw [List.getElem_take] at e
    rw [List.getD_eq_getElem?_getD (l := l), List.getElem?_eq_getElem hj2, Option.getD_some, e, markL_getD] at h1
    have h2 : ks.getD q false = false := by
      cases hk : ks.getD q false with
      | false => rfl
      | true => rw [hk] at h1; simp at h1
    rw [h2]; simp [hq]
  · simp [hq]
theorem putL_snoc (ps : List S45) (l : List Nat) (cs : List S45) (i : Nat) (h : i < l.length) (hc : i < cs.length) : putL ps (l.take (i + 1)) (cs.take (i + 1)) = (putL ps (l.take i) (cs.take i)).set (l.getD i 0) (cs.getD i z45) := by
  have e : cs.take (i + 1) = cs.take i ++ [cs.getD i z45] := by
    rw [List.take_succ_eq_append_getElem hc, List.getD_eq_getElem?_getD, List.getElem?_eq_getElem hc, Option.getD_some]
  unfold putL
  rw [take_snoc_nat l i h, e, List.zip_append (by simp; omega)]
  simp
theorem putL_length (ps : List S45) (l : List Nat) (cs : List S45) : (putL ps l cs).length = ps.length := by
  unfold putL
  generalize l.zip cs = z
  induction z generalizing ps with
  | nil => rfl
  | cons a l ih => rw [List.foldl_cons, ih]; simp
theorem spotsIn_length (x y : Nat) (l : List S51) : (spotsIn x y l).length = l.length := by simp [spotsIn]
theorem spotsIn_getD (x y : Nat) (l : List S51) (i : Nat) (hi : i < l.length) : (spotsIn x y l).getD i 0 = (plc x y (l.getD i z51)).toNat := by
  unfold spotsIn
  rw [List.getD_eq_getElem?_getD, List.getElem?_map, List.getD_eq_getElem?_getD, List.getElem?_eq_getElem hi]
  rfl
theorem out_at {x y : Nat} {l : List S51} {i : Nat} (hi : i < l.length) (h : plc x y (l.getD i z51) < 0) : outB x y l = true := by
  refine List.any_eq_true.2 ⟨l.getD i z51, ?_, decide_eq_true h⟩
  rw [List.getD_eq_getElem?_getD, List.getElem?_eq_getElem hi]
  exact List.getElem_mem hi
theorem out_none {x y : Nat} {l : List S51} (h : ∀ i, i < l.length → 0 ≤ plc x y (l.getD i z51)) : outB x y l = false := by
  rw [Bool.eq_false_iff]
  intro hc
  obtain ⟨s, hs, hd⟩ := List.any_eq_true.1 hc
  obtain ⟨i, hi, rfl⟩ := List.getElem_of_mem hs
  have := h i hi
  rw [List.getD_eq_getElem?_getD, List.getElem?_eq_getElem hi, Option.getD_some] at this
  have := of_decide_eq_true hd
  omega
theorem clash_at {ks : List Bool} {l : List Nat} {i : Nat} (hi : i < l.length) (h : (markL ks (l.take i)).getD (l.getD i 0) false = true) : clash ks l = true :=
  List.any_eq_true.2 ⟨i, List.mem_range.2 hi, h⟩
theorem clash_none {ks : List Bool} {l : List Nat} (h : ∀ i, i < l.length → (markL ks (l.take i)).getD (l.getD i 0) false = false) : clash ks l = false := by
  rw [Bool.eq_false_iff]
  intro hc
  obtain ⟨i, hi, hd⟩ := List.any_eq_true.1 hc
  rw [h i (List.mem_range.1 hi)] at hd
  cases hd
theorem plc_lt {x y n : Nat} (hn : x * y = n) (s : S51) (h : 0 ≤ plc x y s) : (plc x y s).toNat < n := by
  unfold plc at h ⊢
  rcases placeL_cases x y n hn s.f0 s.f1 with e | ⟨j, e, hj⟩
  · omega
  · rw [e]; simpa using hj
end Go.Proofs.Ytmeafgoifekffaa.Lib
