/- the sender's state: the plain law. -/
import Derived.Test.YtfmggodmhklfoaaV10
namespace Go.Proofs.Ytfmggodmhklfoaa.Lib
open Go.RowKit Go.Shelf Go.Proofs.YtfmggodmhklfoaaW.PrintWords Go.Proofs.YtfmggodmhklfoaaW.PrintLast Go.Proofs.YtfmggodmhklfoaaW.PrintMore
set_option linter.unusedVariables false
set_option linter.unusedSimpArgs false
/-- one item that is due -/
def sendS (ms now : Int) (x : S54) : S54 := ⟨x.f0, x.f1, mn (2 * x.f2) ms, now + mn (2 * x.f2) ms⟩
theorem runT_key (ms bs now : Int) : ∀ (l : List Nat) (st : List S54 × List Int), l.Nodup →
    (l.foldl (stepT ms bs now) st).2 = st.2 ++ (l.filter fun i => !decide (now < (st.1.getD i z54).f3)).map (fun i : Nat => bs + (i : Int)) ∧
    ∀ j, (l.foldl (stepT ms bs now) st).1.getD j z54 = if j ∈ l ∧ j < st.1.length ∧ ¬ now < (st.1.getD j z54).f3 then sendS ms now (st.1.getD j z54) else st.1.getD j z54
  | [], st, _ => by simp
  | i :: l, st, h => by
    have hi := (List.nodup_cons.1 h).1
    obtain ⟨h1, h2⟩ := runT_key ms bs now l (stepT ms bs now st i) (List.nodup_cons.1 h).2
    have hst : ∀ j, (stepT ms bs now st i).1.getD j z54 = if j = i ∧ i < st.1.length ∧ ¬ now < (st.1.getD i z54).f3 then sendS ms now (st.1.getD i z54) else st.1.getD j z54 := by
      intro j
      unfold stepT
      by_cases hd : now < (st.1.getD i z54).f3
      · rw [if_pos hd, if_neg (fun h => h.2.2 hd)]
      · rw [if_neg hd]
        simp only
        rw [getD_set_S]
        by_cases hj : i = j ∧ i < st.1.length
        · rw [if_pos hj, if_pos ⟨hj.1.symm, hj.2, hd⟩]
          rfl
        · rw [if_neg hj, if_neg (fun h => hj ⟨h.1.symm, h.2.1⟩)]
    have hne : ∀ j, j ∈ l → (stepT ms bs now st i).1.getD j z54 = st.1.getD j z54 := fun j hj => by
      rw [hst, if_neg (show ¬ (j = i ∧ i < st.1.length ∧ ¬ now < (st.1.getD i z54).f3) from fun h => hi (h.1 ▸ hj))]
    have h22 : (stepT ms bs now st i).2 = st.2 ++ ([i].filter fun i => !decide (now < (st.1.getD i z54).f3)).map (fun i : Nat => bs + (i : Int)) := by
      unfold stepT
      by_cases hd : now < (st.1.getD i z54).f3
      · rw [if_pos hd]; simp [hd, -List.getD_eq_getElem?_getD]
      · rw [if_neg hd]; simp [hd, -List.getD_eq_getElem?_getD]
    rw [List.foldl_cons]
    constructor
    · rw [h1, h22, List.append_assoc, ← List.map_append]
      rw [List.filter_congr (p := fun i_1 => !decide (now < ((stepT ms bs now st i).1.getD i_1 z54).f3)) (q := fun i => !decide (now < (st.1.getD i z54).f3)) (fun j hj => by rw [hne j hj])]
      rw [← List.filter_append]
      rfl
    · intro j
      rw [h2 j, stepT_length]
      by_cases hj : j ∈ l
      · have hji : j ≠ i := fun e => hi (e ▸ hj)
        rw [hne j hj]
        by_cases hc : j < st.1.length ∧ ¬ now < (st.1.getD j z54).f3
        · rw [if_pos ⟨hj, hc⟩, if_pos ⟨List.mem_cons_of_mem _ hj, hc⟩]
        · rw [if_neg (fun h => hc h.2), if_neg (fun h => hc h.2)]
      · rw [if_neg (fun h => hj h.1), hst]
        by_cases hji : j = i
        · subst hji
          by_cases hc : j < st.1.length ∧ ¬ now < (st.1.getD j z54).f3
          · rw [if_pos ⟨rfl, hc⟩, if_pos ⟨List.mem_cons_self, hc⟩]
          · rw [if_neg (fun h => hc h.2), if_neg (fun h => hc h.2)]
        · rw [if_neg (fun h => hji h.1), if_neg (fun h => by rcases List.mem_cons.1 h.1 with e | e; exact hji e; exact hj e)]
theorem getD_app_l (a b : List S54) (j : Nat) (h : j < a.length) : (a ++ b).getD j z54 = a.getD j z54 := by
  rw [List.getD_eq_getElem?_getD, List.getElem?_append_left h, List.getD_eq_getElem?_getD]
theorem getD_app_r (a b : List S54) (j : Nat) (h : a.length ≤ j) : (a ++ b).getD j z54 = b.getD (j - a.length) z54 := by
  rw [List.getD_eq_getElem?_getD, List.getElem?_append_right h, List.getD_eq_getElem?_getD]
theorem opensTo_nodup (its : List S54) (k : Nat) : (opensTo its k).Nodup := List.Pairwise.filter _ List.nodup_range
theorem mem_opensTo (its : List S54) (k j : Nat) : j ∈ opensTo its k ↔ j < k ∧ (its.getD j z54).f0 = false := by
  unfold opensTo
  rw [List.mem_filter, List.mem_range]
  simp
/-- is the item told at this tick? -/
def sentNow (now : Int) (its : List S54) (j : Nat) : Bool := decide (its.length ≤ j) || (!(its.getD j z54).f0 && !decide (now < (its.getD j z54).f3))
/-- how many the window takes -/
def winL (c : Cfg) (bs : Int) (its : List S54) : Nat := its.length + (mn c.wd (c.n - bs) - its.length).toNat
theorem tick_outs (c : Cfg) (bs nw : Int) (its : List S54) : (tickL c bs nw its).2 = ((List.range (winL c bs its)).filter (sentNow (nw + 1) its)).map fun j : Nat => bs + (j : Int) := by
  have h := (runT_key c.ms bs (nw + 1) (opensTo its its.length) (its, []) (opensTo_nodup _ _)).1
  unfold tickL fillT
  simp only
  rw [show runT c.ms bs (nw + 1) its (opensTo its its.length) = List.foldl (stepT c.ms bs (nw + 1)) (its, []) (opensTo its its.length) from rfl, h]
  have hl : (List.foldl (stepT c.ms bs (nw + 1)) (its, []) (opensTo its its.length)).1.length = its.length := runT_length c.ms bs (nw + 1) its (opensTo its its.length)
  rw [hl]
  unfold winL
  rw [List.range_add, List.filter_append, List.map_append, List.nil_append]
  congr 1
  · unfold opensTo
    rw [List.filter_filter]
    congr 1
    apply List.filter_congr
    intro j hj
    have hj' := List.mem_range.1 hj
    unfold sentNow
    rw [decide_eq_false (show ¬ its.length ≤ j by omega), Bool.false_or, Bool.and_comm]
  · rw [List.filter_eq_self.2 (fun j hj => by
      obtain ⟨t, _, rfl⟩ := List.mem_map.1 hj
      unfold sentNow
      rw [decide_eq_true (show its.length ≤ its.length + t by omega), Bool.true_or])]
    rw [List.map_map]
    rfl
theorem tick_length (c : Cfg) (bs nw : Int) (its : List S54) : (tickL c bs nw its).1.length = winL c bs its := by
  unfold tickL winL
  rw [(fillT_length _ _ _ _ _).1, runT_length]
theorem tick_item (c : Cfg) (bs nw : Int) (its : List S54) (j : Nat) : (tickL c bs nw its).1.getD j z54 =
    if j < its.length then (if sentNow (nw + 1) its j = true then sendS c.ms (nw + 1) (its.getD j z54) else its.getD j z54) else if j < winL c bs its then ⟨false, false, c.fs, nw + 1 + c.fs⟩ else z54 := by
  have h := (runT_key c.ms bs (nw + 1) (opensTo its its.length) (its, []) (opensTo_nodup _ _)).2 j
  have hl := runT_length c.ms bs (nw + 1) its (opensTo its its.length)
  have hr : runT c.ms bs (nw + 1) its (opensTo its its.length) = List.foldl (stepT c.ms bs (nw + 1)) (its, []) (opensTo its its.length) := rfl
  rw [← hr] at h
  simp only at h
  unfold tickL fillT
  simp only
  by_cases hj : j < its.length
  · rw [if_pos hj, getD_app_l _ _ _ (by rw [hl]; exact hj), h]
    have hs : (j ∈ opensTo its its.length ∧ j < its.length ∧ ¬ nw + 1 < (its.getD j z54).f3) ↔ sentNow (nw + 1) its j = true := by
      rw [mem_opensTo]
      unfold sentNow
      rw [decide_eq_false (show ¬ its.length ≤ j by omega)]
      simp only [Bool.false_or, Bool.and_eq_true, Bool.not_eq_true', decide_eq_false_iff_not]
      exact ⟨fun h => ⟨h.1.2, h.2.2⟩, fun h => ⟨⟨hj, h.1⟩, hj, h.2⟩⟩
    by_cases hc : sentNow (nw + 1) its j = true
    · rw [if_pos hc, if_pos (hs.2 hc)]
    · rw [if_neg hc, if_neg (fun h => hc (hs.1 h))]
  · rw [if_neg hj, getD_app_r _ _ _ (by rw [hl]; omega), hl]
    unfold winL
    rw [List.getD_eq_getElem?_getD, List.getElem?_replicate]
    by_cases hw : j - its.length < (mn c.wd (c.n - bs) - its.length).toNat
    · rw [if_pos hw, if_pos (by omega)]
      rfl
    · rw [if_neg hw, if_neg (by omega)]
      rfl
end Go.Proofs.Ytfmggodmhklfoaa.Lib
