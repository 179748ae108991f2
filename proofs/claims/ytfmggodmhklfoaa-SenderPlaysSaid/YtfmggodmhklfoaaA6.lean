/- SenderAgain: the plain law. -/
import Derived.Test.YtfmggodmhklfoaaA5
namespace Go.Proofs.Ytfmggodmhklfoaa.Lib
open Go.RowKit Go.Shelf Go.Proofs.YtfmggodmhklfoaaW.PrintWords Go.Proofs.YtfmggodmhklfoaaW.PrintLast Go.Proofs.YtfmggodmhklfoaaW.PrintMore
set_option linter.unusedVariables false
set_option linter.unusedSimpArgs false
/-- since how many ticks the base wasn't sent -/
structure AgInv (c : Cfg) (bs nw : Int) (its : List S54) (sn : Int) : Prop where
  s0 : 0 ≤ sn
  lt : bs < c.n → sn < c.ms
  du : bs < c.n → (its.getD 0 z54).f3 ≤ nw - sn + c.ms
def agS (bs sn : Int) (l : List Int) : Int := if bs ∈ l then 0 else sn + 1
def agB (bs : Int) (b : Bool) (l : List Int) : Bool := b || decide (bs ∈ l)
theorem agS_step {bs sn : Int} {l : List Int} {j : Nat} (hj : j < l.length) : agS bs sn (l.take (j + 1)) = if l.getD j 0 = bs then 0 else agS bs sn (l.take j) := by
  have e : l.getD j 0 = l[j] := by rw [List.getD_eq_getElem?_getD, List.getElem?_eq_getElem hj]; rfl
  unfold agS
  rw [List.take_succ_eq_append_getElem hj, e]
  generalize l[j] = y
  generalize l.take j = t
  by_cases h : y = bs
  · rw [if_pos (by simp [h]), if_pos h]
  · have h' : ¬ bs = y := fun x => h x.symm
    rw [if_neg h]
    by_cases h2 : bs ∈ t
    · rw [if_pos (by simp [h2]), if_pos h2]
    · rw [if_neg (by simp [h2, h']), if_neg h2]
theorem agB_step {bs : Int} {b : Bool} {l : List Int} {j : Nat} (hj : j < l.length) : agB bs b (l.take (j + 1)) = if l.getD j 0 = bs then true else agB bs b (l.take j) := by
  have e : l.getD j 0 = l[j] := by rw [List.getD_eq_getElem?_getD, List.getElem?_eq_getElem hj]; rfl
  unfold agB
  rw [List.take_succ_eq_append_getElem hj, e]
  generalize l[j] = y
  generalize l.take j = t
  by_cases h : y = bs
  · rw [if_pos h]
    simp [h]
  · have h' : ¬ bs = y := fun x => h x.symm
    rw [if_neg h]
    simp [h']
theorem agS_bd {bs sn : Int} {l : List Int} (h : 0 ≤ sn) : 0 ≤ agS bs sn l ∧ agS bs sn l ≤ sn + 1 := by
  unfold agS; split <;> omega
theorem ag_new {n wd fs ms : Int} (h : CfgOk n wd fs ms) : AgInv ⟨n, wd, fs, ms⟩ 0 0 [] 0 := by
  obtain ⟨h1, h2, h3, h4, h5, h6, h7⟩ := h
  refine ⟨by simp, fun _ => ?_, fun _ => ?_⟩
  · show 0 < ms
    omega
  · simp [z54]; omega
theorem ag_tick {c : Cfg} {bs nw : Int} {its : List S54} {sn : Int} (hG : Good c bs nw its) (hc : CfgOk c.n c.wd c.fs c.ms) (h : AgInv c bs nw its sn) : AgInv c bs (nw + 1) (tickL c bs nw its).1 (agS bs sn (tickL c bs nw its).2) := by
  have hw := hG.winL
  obtain ⟨c1, c2, c3, c4, c5, c6, c7⟩ := hc
  have hmem : bs ∈ (tickL c bs nw its).2 ↔ 0 < winL c bs its ∧ sentNow (nw + 1) its 0 = true := by
    rw [tick_outs]
    simp only [List.mem_map, List.mem_filter, List.mem_range]
    constructor
    · rintro ⟨t, ⟨h1, h2⟩, h3⟩
      obtain rfl : t = 0 := by omega
      exact ⟨h1, h2⟩
    · rintro ⟨h1, h2⟩
      exact ⟨0, ⟨h1, h2⟩, by simp⟩
  refine ⟨(agS_bd h.s0).1, fun hlt => ?_, fun hlt => ?_⟩
  · have hw1 : 0 < winL c bs its := by
      have := hw.1
      unfold mn at this
      split at this <;> omega
    by_cases hs : sentNow (nw + 1) its 0 = true
    · unfold agS
      rw [if_pos (hmem.2 ⟨hw1, hs⟩)]
      omega
    · unfold agS
      rw [if_neg (fun h => hs (hmem.1 h).2)]
      have hd := h.du hlt
      unfold sentNow at hs
      rw [hG.head] at hs
      simp only [Bool.not_false, Bool.true_and, Bool.or_eq_true, decide_eq_true_eq, Bool.not_eq_true', decide_eq_false_iff_not, not_or, Classical.not_not] at hs
      omega
  · have hw1 : 0 < winL c bs its := by
      have := hw.1
      unfold mn at this
      split at this <;> omega
    rw [tick_item]
    by_cases hs : sentNow (nw + 1) its 0 = true
    · unfold agS
      rw [if_pos (hmem.2 ⟨hw1, hs⟩)]
      have := hG.gap 0
      by_cases h0 : 0 < its.length
      · rw [if_pos h0, if_pos hs]
        simp only [sendS, mn]
        split <;> omega
      · rw [if_neg h0, if_pos hw1]
        show nw + 1 + c.fs ≤ _
        omega
    · have h0 : 0 < its.length := by
        unfold sentNow at hs
        simp only [Bool.or_eq_true, decide_eq_true_eq, not_or] at hs
        omega
      unfold agS
      rw [if_neg (fun h => hs (hmem.1 h).2), if_pos h0, if_neg hs]
      have := h.du hlt
      omega
theorem ag_ack {c : Cfg} {bs nw : Int} {its : List S54} {sn : Int} (hG : Good c bs nw its) (hc : CfgOk c.n c.wd c.fs c.ms) (h : AgInv c bs nw its sn) (next : Int) (rs : List (Int × Int)) : AgInv c (ackL bs nw its next rs).1 nw (ackL bs nw its next rs).2 (if (ackL bs nw its next rs).1 = bs then sn else 0) := by
  have hG2 := hG.ack (by obtain ⟨_, _, _, _, _, _, _⟩ := hc; omega) next rs
  obtain ⟨c1, c2, c3, c4, c5, c6, c7⟩ := hc
  obtain ⟨d, h1, h2, h3, h4, h5, h6⟩ := ack_spec bs nw its next rs
  have hs := h.s0
  by_cases he : (ackL bs nw its next rs).1 = bs
  · rw [if_pos he, he]
    have hd : d = 0 := by omega
    subst hd
    refine ⟨hs, h.lt, fun hlt => ?_⟩
    have hl := h.lt hlt
    have hu := h.du hlt
    have hmk : ((markAll bs (markL bs its 0 next) rs).getD (0 + 0) z54).f3 = (its.getD 0 z54).f3 := by
      rw [marked_item]
      split <;> rfl
    rw [h6]
    split
    · show nw ≤ _
      omega
    · rw [hmk]
      exact hu
  · rw [if_neg he]
    refine ⟨by omega, fun _ => by omega, fun _ => ?_⟩
    have := hG2.due 0
    omega
end Go.Proofs.Ytfmggodmhklfoaa.Lib
