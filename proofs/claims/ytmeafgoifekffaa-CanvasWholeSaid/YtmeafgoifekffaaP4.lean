/- CanvasWhole: lines laid one by one, in plain Lean. -/
import Derived.Test.YtmeafgoifekffaaP3
import Derived.Test.YtmeafgoifekffaaV8
namespace Go.Proofs.Ytmeafgoifekffaa.Lib
open Go.RowKit Go.Shelf Go.Proofs.YtmeafgoifekffaaW.PrintWords Go.Proofs.YtmeafgoifekffaaW.PrintLast Go.Proofs.YtmeafgoifekffaaW.PrintMore
set_option linter.unusedVariables false
set_option linter.unusedSimpArgs false
/-- the lines that are left, and which places are known -/
structure Rest (x y : Nat) (L : List (List S51)) (ks : List Bool) : Prop where
  len : ks.length = x * y
  one : ∀ p, p < x * y → (if ks.getD p false = true then 1 else 0) + (L.flatMap (spotsIn x y)).count p = 1
  inn : ∀ s ∈ L, outB x y s = false ∧ 0 < s.length ∧ s.length ≤ x
theorem rest_new (x y : Nat) (la wo : Bool) : Rest x y (allL x y (gridsOf la wo)) (List.replicate (x * y) false) := by
  refine ⟨by simp, fun p hp => ?_, fun s hs => all_in hs⟩
  rw [once x y p hp]
  have : (List.replicate (x * y) false).getD p false = false := by
    rw [List.getD_eq_getElem?_getD, List.getElem?_replicate]
    split <;> rfl
  rw [this]
  rfl
section
variable {x y : Nat} {A B : List (List S51)} {s : List S51} {ks : List Bool}
theorem Rest.count (h : Rest x y (A ++ s :: B) ks) (p : Nat) (hp : p < x * y) : (if ks.getD p false = true then 1 else 0) + ((spotsIn x y s).count p + ((A ++ B).flatMap (spotsIn x y)).count p) = 1 := by
  have h1 := h.one p hp
  rw [List.flatMap_append, List.flatMap_cons, List.count_append, List.count_append] at h1
  rw [List.flatMap_append, List.count_append]
  omega
theorem Rest.lt (h : Rest x y (A ++ s :: B) ks) (i : Nat) (hi : i < (spotsIn x y s).length) : (spotsIn x y s).getD i 0 < x * y := spotsIn_lt rfl s (h.inn s (by simp)).1 i hi
theorem Rest.clash (h : Rest x y (A ++ s :: B) ks) : clash ks (spotsIn x y s) = false := by
  refine clash_none (fun i hi => ?_)
  have hp := h.lt i hi
  have h1 := h.count _ hp
  rw [markL_getD]
  obtain ⟨l, hl⟩ : ∃ l, spotsIn x y s = l := ⟨_, rfl⟩
  rw [hl] at h1 hi ⊢
  have e : l.getD i 0 = l[i] := by rw [List.getD_eq_getElem?_getD, List.getElem?_eq_getElem hi]; rfl
  rw [e] at h1 ⊢
  have h2 : l.count l[i] = (l.take i).count l[i] + (1 + (l.drop (i + 1)).count l[i]) := by
    have h3 : l = l.take i ++ (l[i] :: l.drop (i + 1)) := by rw [← List.drop_eq_getElem_cons hi, List.take_append_drop]
    have h4 := congrArg (List.count l[i]) h3
    rw [List.count_append, List.count_cons_self] at h4
    omega
  have h5 : l[i] ∉ l.take i := fun hm => by
    have := List.count_pos_iff.2 hm
    split at h1 <;> omega
  have h6 : ks.getD l[i] false = false := by
    cases hk : ks.getD l[i] false with
    | false => rfl
    | true =>
      rw [hk] at h1
      simp at h1
      omega
  rw [h6]
  simp [h5]
theorem Rest.step (h : Rest x y (A ++ s :: B) ks) : Rest x y (A ++ B) (markL ks (spotsIn x y s)) := by
  refine ⟨by rw [markL_length]; exact h.len, fun p hp => ?_, fun q hq => h.inn q (by
    rcases List.mem_append.1 hq with h1 | h1
    · exact List.mem_append_left _ h1
    · exact List.mem_append_right _ (List.mem_cons_of_mem _ h1))⟩
  have h1 := h.count p hp
  rw [markL_getD]
  by_cases hm : p ∈ spotsIn x y s
  · have h2 := List.count_pos_iff.2 hm
    have h3 : decide (p ∈ spotsIn x y s ∧ p < ks.length) = true := decide_eq_true ⟨hm, by rw [h.len]; exact hp⟩
    rw [h3, Bool.true_or, if_pos rfl]
    split at h1 <;> omega
  · have h2 := List.count_eq_zero.2 hm
    have h3 : decide (p ∈ spotsIn x y s ∧ p < ks.length) = false := decide_eq_false (fun h => hm h.1)
    rw [h3, Bool.false_or]
    omega
theorem Rest.lay (h : Rest x y (A ++ s :: B) ks) (cnt : Nat) (ps cols : List S45) (hc : s.length = cols.length) : layL x y cnt ps ks s cols = (0, cnt + s.length, putL ps (spotsIn x y s) cols, markL ks (spotsIn x y s)) := by
  unfold layL
  rw [if_neg, if_neg]
  · rw [h.clash]; simp
  · rintro (h1 | h1)
    · exact h1 hc
    · rw [(h.inn s (by simp)).1] at h1
      cases h1
end
theorem cntL_full {ks : List Bool} (h : ∀ p, p < ks.length → ks.getD p false = true) : cntL ks = ks.length := by
  unfold cntL
  rw [List.filter_eq_self.2]
  intro b hb
  obtain ⟨i, hi, rfl⟩ := List.getElem_of_mem hb
  have := h i hi
  rwa [List.getD_eq_getElem?_getD, List.getElem?_eq_getElem hi] at this
theorem cntL_not {ks : List Bool} {p : Nat} (hp : p < ks.length) (h : ks.getD p false = false) : cntL ks < ks.length := by
  have h1 := cntL_set ks p hp h
  have h2 := cntL_le (ks.set p true)
  rw [List.length_set] at h2
  omega
theorem Rest.notFull {x y : Nat} {L : List (List S51)} {ks : List Bool} (h : Rest x y L ks) (hL : 0 < L.length) : cntL ks < x * y := by
  obtain ⟨s, B, rfl⟩ := List.exists_cons_of_length_pos hL
  have h1 := h.inn s (by simp)
  have h2 := (show Rest x y ([] ++ s :: B) ks from h).lt 0 (by rw [spotsIn_length]; exact h1.2.1)
  have h3 := (show Rest x y ([] ++ s :: B) ks from h).count _ h2
  have h4 : 0 < (spotsIn x y s).count ((spotsIn x y s).getD 0 0) := List.count_pos_iff.2 (by
    rw [List.getD_eq_getElem?_getD, List.getElem?_eq_getElem (by rw [spotsIn_length]; exact h1.2.1)]
    exact List.getElem_mem _)
  rw [← h.len]
  refine cntL_not (p := (spotsIn x y s).getD 0 0) (by rw [h.len]; exact h2) ?_
  cases hk : ks.getD ((spotsIn x y s).getD 0 0) false with
  | false => rfl
  | true =>
    rw [hk, if_pos rfl] at h3
    omega
theorem Rest.full {x y : Nat} {ks : List Bool} (h : Rest x y [] ks) : ∀ p, p < x * y → ks.getD p false = true := by
  intro p hp
  have h1 := h.one p hp
  cases hk : ks.getD p false with
  | true => rfl
  | false =>
    rw [hk] at h1
    simp at h1
/-- what is known is the picture's -/
def Pic (ps img : List S45) (ks : List Bool) : Prop := ∀ p, ks.getD p false = true → ps.getD p z45 = img.getD p z45
theorem pic_new (ps img : List S45) (n : Nat) : Pic ps img (List.replicate n false) := by
  intro p hp
  rw [List.getD_eq_getElem?_getD, List.getElem?_replicate] at hp
  split at hp <;> simp at hp
theorem put_pic (ps img : List S45) (ks : List Bool) (l : List Nat) (cs : List S45) (hp : ps.length = ks.length) (hl : ∀ i, i < l.length → l.getD i 0 < ks.length) (hc : l.length = cs.length) (hi : ∀ i, i < l.length → cs.getD i z45 = img.getD (l.getD i 0) z45) (h : Pic ps img ks) :
    ∀ t, t ≤ l.length → Pic (putL ps (l.take t) (cs.take t)) img (markL ks (l.take t))
  | 0, _ => by simpa [putL, markL] using h
  | t + 1, ht => by
    have ih := put_pic ps img ks l cs hp hl hc hi h t (by omega)
    rw [markL_snoc ks l t (by omega), putL_snoc ps l cs t (by omega) (by omega)]
    intro p hpk
    rw [getD_set_b] at hpk
    by_cases e : l.getD t 0 = p
    · subst e
      rw [List.getD_eq_getElem?_getD, List.getElem?_set_self (by rw [putL_length, hp]; exact hl t (by omega))]
      exact hi t (by omega)
    · rw [if_neg (fun h => e h.1)] at hpk
      rw [List.getD_eq_getElem?_getD, List.getElem?_set_ne e, ← List.getD_eq_getElem?_getD]
      exact ih p hpk
theorem Rest.pic {x y : Nat} {A B : List (List S51)} {s : List S51} {ks : List Bool} {ps img cols : List S45} (h : Rest x y (A ++ s :: B) ks) (hp : ps.length = x * y) (hc : s.length = cols.length) (hi : ∀ i, i < s.length → cols.getD i z45 = img.getD ((spotsIn x y s).getD i 0) z45) (hP : Pic ps img ks) : Pic (putL ps (spotsIn x y s) cols) img (markL ks (spotsIn x y s)) := by
  have h1 := put_pic ps img ks (spotsIn x y s) cols (by rw [hp, h.len]) (fun i hi => by rw [h.len]; exact h.lt i hi) (by rw [spotsIn_length]; exact hc) (fun i h2 => hi i (by rwa [spotsIn_length] at h2)) hP _ (Nat.le_refl _)
  rw [List.take_length, spotsIn_length, hc, List.take_length] at h1
  exact h1
theorem pic_all {ps img : List S45} {ks : List Bool} {n : Nat} (hp : ps.length = n) (hi : img.length = n) (h : Pic ps img ks) (hk : ∀ p, p < n → ks.getD p false = true) : ps = img := by
  refine List.ext_getElem (by rw [hp, hi]) (fun i h1 h2 => ?_)
  have h3 := h i (hk i (by omega))
  rw [List.getD_eq_getElem?_getD, List.getElem?_eq_getElem h1, List.getD_eq_getElem?_getD, List.getElem?_eq_getElem h2] at h3
  exact h3
/-- the view of a full canvas is its picture -/
theorem view_full {x y n : Nat} (hn : x * y = n) (ps : List S45) (ks : List Bool) (wv : Bool) (hp : ps.length = n) (hk : ∀ p, p < n → ks.getD p false = true) : viewTo x y ps ks wv n = ps := by
  refine List.ext_getElem (by simp [viewTo]) (fun i h1 h2 => ?_)
  simp only [viewTo, List.getElem_mapIdx]
  rw [if_pos (by omega)]
  have h3 : i < n := by omega
  have hx0 : 0 < x := by rcases Nat.eq_zero_or_pos x with rfl | h; (· simp at hn; omega); exact h
  have hx : i % x < x := Nat.mod_lt _ hx0
  have hy : i / x < y := Nat.div_lt_of_lt_mul (by omega)
  have hs : seeL x y ps ks (i % x, i / x) = some (ps.getD i z45) := by
    have hpl : placeL x y ((i % x : Nat) : Int) ((i / x : Nat) : Int) = (i : Nat) := by
      have h5 := plc_in (x := x) (y := y) hx hy
      unfold plc at h5
      rw [h5, Nat.mul_comm, Nat.div_add_mod]
    unfold seeL atL
    simp only [hpl, Int.toNat_natCast]
    rw [if_pos (show 0 ≤ (i : Int) ∧ ks.getD i false = true from ⟨by omega, hk i h3⟩)]
    rfl
  have h4 := viewAt_some x y ps ks wv i [] (i % x, i / x) _ (by cases wv <;> simp [nearL]) (by simp) hs
  rw [h4, List.getD_eq_getElem?_getD, List.getElem?_eq_getElem h2]
  rfl
end Go.Proofs.Ytmeafgoifekffaa.Lib
