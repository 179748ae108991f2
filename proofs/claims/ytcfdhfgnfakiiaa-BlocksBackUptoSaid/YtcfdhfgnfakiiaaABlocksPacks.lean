/- BlocksPacks: the packed bytes are the document's: plain lists. -/
import Derived.Test.YtcfdhfgnfakiiaaUBlocksPacks
namespace Go.Proofs.Ytcfdhfgnfakiiaa.Lib
open Go.RowKit Go.Proofs.YtcfdhfgnfakiiaaW.PrintWords Go.Proofs.YtcfdhfgnfakiiaaW.PrintLast Go.Proofs.YtcfdhfgnfakiiaaW.PrintMore
theorem cutList_zero (s : Nat) (hs : 1 ≤ s) : cutList 0 s = [] := by
  unfold cutList
  rw [Nat.div_eq_of_lt (by omega)]
  rfl
theorem cutList_pos (m s : Nat) (hs : 1 ≤ s) (hm : 0 < m) : cutList m s = (0, min s m) :: (cutList (m - min s m) s).map (fun y => (y.1 + min s m, y.2)) := by
  unfold cutList
  rcases Nat.le_total s m with h | h
  · have e : (m + s - 1) / s = (m - min s m + s - 1) / s + 1 := by
      rw [Nat.min_eq_left h]
      have : m + s - 1 = (m - s + s - 1) + s := by omega
      rw [this, Nat.add_div_right _ (by omega)]
    rw [e, List.range_succ_eq_map]
    simp only [List.map_cons, List.map_map, Nat.zero_mul, Nat.sub_zero, List.cons.injEq, true_and]
    apply List.map_congr_left
    intro j _
    simp only [Function.comp, Nat.min_eq_left h]
    have : (j + 1) * s = j * s + s := by rw [Nat.add_mul, Nat.one_mul]
    rw [Nat.succ_eq_add_one, this, Nat.sub_sub, Nat.add_comm s (j * s)]
  · have e : (m + s - 1) / s = 1 := by
      rw [Nat.div_eq_iff (by omega)]; omega
    have e2 : m - min s m = 0 := by rw [Nat.min_eq_right h]; omega
    rw [e, e2, Nat.div_eq_of_lt (by omega)]
    simp
theorem packed_pos (l : List Int) (s : Nat) (hs : 1 ≤ s) (hm : 0 < l.length) : packed l (cutList l.length s) = (((min s l.length : Nat) : Int) :: l.take (min s l.length)) ++ packed (l.drop (min s l.length)) (cutList (l.drop (min s l.length)).length s) := by
  rw [cutList_pos l.length s hs hm]
  unfold packed
  simp only [List.flatMap_cons, List.drop_zero, List.length_drop]
  congr 1
  rw [List.flatMap_map]
  simp only [List.flatMap_def]
  congr 1
  apply List.map_congr_left
  intro y _
  simp only [List.drop_drop]
  rw [Nat.add_comm]
theorem pack_loop (s : Nat) (hs : 1 ≤ s) (hs2 : s ≤ 255) (d : Nat) : ∀ (l acc : List Int), l.length ≤ d → acc.length + 256 * d ≤ 140737488350000 → Ev (fun k => halftoneref10_Pack.l0 k l s acc) (acc ++ packed l (cutList l.length s) ++ [0], 0) := by
  induction d with
  | zero =>
    intro l acc hl ha
    obtain rfl := List.length_eq_zero_iff.1 (by omega : l.length = 0)
    refine Ev.step (f := fun _ => some (acc ++ packed [] (cutList 0 s) ++ [0], 0)) (fun k => ?_) (Ev.now _)
    simp only [halftoneref10_Pack.l0, List.length_nil]
    rw [if_neg (by decide), if_pos (by omega), cutList_zero s hs]
    simp [packed]
  | succ d ih =>
    intro l acc hl ha
    by_cases h : l.length = 0
    · obtain rfl := List.length_eq_zero_iff.1 h
      exact Ev.congr (fun _ => rfl) (ih [] acc (by simp) (by omega))
    · have hm : mn (s : Int) (l.length : Int) = ((min s l.length : Nat) : Int) := by unfold mn; split <;> omega
      have hq : 1 ≤ min s l.length ∧ min s l.length ≤ 255 ∧ min s l.length ≤ l.length := by omega
      obtain ⟨q, hqe⟩ : ∃ q, min s l.length = q := ⟨_, rfl⟩
      have hp := packed_pos l s hs (by omega)
      rw [hqe] at hm hq hp
      refine Ev.step (f := fun k => halftoneref10_Pack.l0 k (l.drop q) s ((acc ++ [(q : Int)]) ++ l.take q)) (fun k => ?_) ?_
      · simp only [halftoneref10_Pack.l0, hm]
        rw [if_pos (by omega), if_pos (by omega)]
        have e : ((q : Int) % 256) = q := by omega
        simp only [Option.bind_some, e, Int.toNat_natCast]
        rw [if_pos (by omega), if_pos (by omega), if_pos (by simp only [List.length_append, List.length_cons, List.length_nil, List.length_take]; omega)]
      · rw [hp]
        have := ih (l.drop q) ((acc ++ [(q : Int)]) ++ l.take q) (by simp only [List.length_drop]; omega) (by simp only [List.length_append, List.length_cons, List.length_nil, List.length_take]; omega)
        simpa using this
theorem BlocksPacks : halftonelaw10_BlocksPacks.PureU := by
  intro l a _ hl _ _
  have hr : ∃ v, blocks_Pack.f l a = some v ∧ Ev (fun k => halftoneref10_Pack.f k l a) v := by
    by_cases ha : a < 1 ∨ 255 < a
    · refine ⟨([], 1), by unfold blocks_Pack.f; rw [if_pos ha], ?_⟩
      refine Ev.step (f := fun _ => some ([], 1)) (fun k => ?_) (Ev.now _)
      unfold halftoneref10_Pack.f
      rcases ha with ha | ha
      · rw [if_pos ha]; rfl
      · rw [if_neg (by omega)]; simp [halftoneref10_Pack.j0, ha]
    · obtain ⟨s, rfl⟩ : ∃ s : Nat, a = s := ⟨a.toNat, by omega⟩
      refine ⟨(packed l (cutList l.length s) ++ [0], 0), by unfold blocks_Pack.f; rw [if_neg ha, if_pos (by omega)]; rfl, ?_⟩
      refine Ev.step (f := fun k => halftoneref10_Pack.l0 k l s []) (fun k => ?_) (by simpa using pack_loop s (by omega) (by omega) l.length l [] (Nat.le_refl _) (by simp; omega))
      unfold halftoneref10_Pack.f
      have hb : decide ((s : Int) > 255) = false := decide_eq_false (by omega)
      rw [if_neg (by omega), hb]
      rfl
  obtain ⟨v, hv, hE⟩ := hr
  obtain ⟨k, hk⟩ := hE.rounds
  refine ⟨k, ?_⟩
  unfold halftonelaw10_BlocksPacks.f
  have hf : halftonelaw10_fixed.f = some true := rfl
  simp only [hf, Option.bind_some, if_true, List.nil_append, List.length_nil, Nat.zero_add]
  rw [if_pos (by omega), hv, hk]
  simp only [Option.bind_some, if_true, same_lit]
end Go.Proofs.Ytcfdhfgnfakiiaa.Lib
