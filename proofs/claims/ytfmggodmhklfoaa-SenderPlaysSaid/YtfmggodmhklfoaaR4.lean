/- the document's sender: one item after the other: the plain law; what its memory keeps. -/
import Derived.Test.YtfmggodmhklfoaaR3
namespace Go.Proofs.Ytfmggodmhklfoaa.Lib
open Go.RowKit Go.Shelf Go.Proofs.YtfmggodmhklfoaaW.PrintWords Go.Proofs.YtfmggodmhklfoaaW.PrintLast Go.Proofs.YtfmggodmhklfoaaW.PrintMore
set_option linter.unusedVariables false
set_option linter.unusedSimpArgs false
/-- the items, the first t of them as they will be -/
def mix (new old : List S54) (t : Nat) : List S54 := new.take t ++ old.drop t
theorem mix_zero (new old : List S54) : mix new old 0 = old := by simp [mix]
theorem mix_length {new old : List S54} {t : Nat} (h : old.length ≤ new.length) (ht : t ≤ new.length) : (mix new old t).length = max t old.length := by
  simp [mix]; omega
theorem mix_end {new old : List S54} (h : old.length ≤ new.length) : mix new old new.length = new := by
  simp [mix, List.drop_eq_nil_of_le h]
theorem mix_getD {new old : List S54} {t j : Nat} (ht : t ≤ new.length) : (mix new old t).getD j z54 = if j < t then new.getD j z54 else old.getD j z54 := by
  unfold mix
  rw [List.getD_eq_getElem?_getD]
  by_cases hj : j < t
  · rw [List.getElem?_append_left (by rw [List.length_take]; omega), List.getElem?_take, if_pos hj, if_pos hj, List.getD_eq_getElem?_getD]
  · rw [List.getElem?_append_right (by rw [List.length_take]; omega), List.length_take, Nat.min_eq_left ht, List.getElem?_drop, if_neg hj, List.getD_eq_getElem?_getD, show t + (j - t) = j by omega]
theorem S54_ext {a b : List S54} (hl : a.length = b.length) (h : ∀ j, a.getD j z54 = b.getD j z54) : a = b := by
  apply List.ext_getElem hl
  intro i h1 h2
  have := h i
  rw [List.getD_eq_getElem?_getD, List.getElem?_eq_getElem h1, List.getD_eq_getElem?_getD, List.getElem?_eq_getElem h2] at this
  exact this
theorem mix_set {new old : List S54} {t : Nat} (h : old.length ≤ new.length) (ht : t < old.length) : (mix new old t).set t (new.getD t z54) = mix new old (t + 1) := by
  apply S54_ext
  · rw [List.length_set, mix_length h (by omega), mix_length h (by omega)]; omega
  · intro j
    rw [getD_set_S, mix_length h (by omega), mix_getD (by omega), mix_getD (by omega)]
    by_cases e : t = j
    · subst e
      rw [if_pos ⟨rfl, by omega⟩, if_pos (by omega)]
    · rw [if_neg (fun h => e h.1)]
      by_cases hj : j < t
      · rw [if_pos hj, if_pos (by omega)]
      · rw [if_neg hj, if_neg (by omega)]
theorem mix_snoc {new old : List S54} {t : Nat} (h : old.length ≤ t) (ht : t < new.length) : mix new old t ++ [new.getD t z54] = mix new old (t + 1) := by
  unfold mix
  rw [List.drop_eq_nil_of_le h, List.drop_eq_nil_of_le (by omega), List.append_nil, List.append_nil, List.take_succ_eq_append_getElem ht, List.getD_eq_getElem?_getD, List.getElem?_eq_getElem ht]
  rfl
theorem mix_same {new old : List S54} {t : Nat} (h : old.length ≤ new.length) (ht : t < old.length) (e : new.getD t z54 = old.getD t z54) : mix new old (t + 1) = mix new old t := by
  apply S54_ext
  · rw [mix_length h (by omega), mix_length h (by omega)]; omega
  · intro j
    rw [mix_getD (by omega), mix_getD (by omega)]
    by_cases hj : j < t
    · rw [if_pos (by omega), if_pos hj]
    · by_cases hj2 : j = t
      · subst hj2
        rw [if_pos (by omega), if_neg (by omega), e]
      · rw [if_neg (by omega), if_neg hj]
theorem mix_head {new old : List S54} {t : Nat} (ht : t ≤ new.length) (h1 : (new.getD 0 z54).f0 = false) (h2 : (old.getD 0 z54).f0 = false) : ((mix new old t).getD 0 z54).f0 = false := by
  rw [mix_getD ht]
  split
  · exact h1
  · exact h2
/-- the document's sender, while it tells a row -/
structure RtS (w W : World) (n₀ g : Nat) (c : Cfg) (nw : Int) (vs : Value) (xs : List S57) (vo : Value) (outs : List Int) : Prop where
  rf : IsRf W n₀ g c nw vs xs
  out : Kd.R (Kd.int .i64) 3 W w.heap.size (fun _ => True) vo outs
  left : Left w W n₀ g vs vs
theorem RtS.drewN {w W : World} {n₀ g : Nat} {c : Cfg} {nw : Int} {vs vo : Value} {xs : List S57} {outs : List Int} (h : RtS w W n₀ g c nw vs xs vo outs) (m : Nat) : RtS w (W.drewN m) n₀ g c nw vs xs vo outs :=
  ⟨h.rf.drewN m, Kd.R_drewN h.out m, h.left.drawn m⟩
theorem RtS.set1 {w W : World} {n₀ g gb o n cap : Nat} {c : Cfg} {nw : Int} {vo : Value} {xs : List S57} {outs : List Int} (h : RtS w W n₀ g c nw (.slice (some ⟨gb, o, none⟩) n cap) xs vo outs) (i : Nat) (hi : i < n) (j : Nat) (u : Value) (x' : S57) (hj : j < 5) (hx : (xs.getD i z57).cells.set j u = x'.cells) :
    RtS w (W.setCell ⟨gb, o + i * 5 + j, none⟩ u) n₀ g c nw (.slice (some ⟨gb, o, none⟩) n cap) (xs.set i x') vo outs := by
  obtain ⟨cells, hb⟩ := Kd.Q_typed h.rf.row gb rfl
  exact ⟨h.rf.set1 i hi j u x' hj hx, Kd.R_set h.out hb (by decide) _ _, h.left.setrow (Kd.Q_base h.rf.row gb rfl) u⟩
theorem IsRf.grown {W w1 : World} {n₀ g base : Nat} {ok : Nat → Prop} {c : Cfg} {nw : Int} {vs vo : Value} {xs : List S57} {l : List Int} (h : IsRf W n₀ g c nw vs xs) (ho : Kd.R (Kd.int .i64) 3 W base ok vo l) (hg : W.grownBy w1 vo.ownBlock) : IsRf w1 n₀ g c nw vs xs := by
  refine ⟨blk_grown h.blk hg (Kd.R_ne ho h.blk (by decide)), h.ge, ?_⟩
  refine Kd.Q_mono (Kd.Q_step (Kd.Q_bound h.row) (fun k hk hlt => ?_)) (fun _ h => h.1)
  obtain ⟨_, _, _, q, hq, cells, hc⟩ := hk
  have hq3 : q = 57 := by
    rcases List.mem_cons.1 hq with h | h
    · exact h
    · exact absurd (show q ∈ ([] : List Nat) from h) List.not_mem_nil
  subst hq3
  exact hg.block k hlt (Kd.R_ne ho hc (by decide))
theorem RtS.app {w W w1 : World} {n₀ g : Nat} {c : Cfg} {nw : Int} {vs vo v1 : Value} {xs : List S57} {outs : List Int} {p : Int} (h : RtS w W n₀ g c nw vs xs vo outs) (ho : Kd.R (Kd.int .i64) 3 w1 w.heap.size (fun _ => True) v1 (outs ++ [p])) (hg : W.grownBy w1 vo.ownBlock) (hn : n₀ ≤ w.heap.size) : RtS w w1 n₀ g c nw vs xs v1 (outs ++ [p]) :=
  ⟨h.rf.grown h.out hg, ho, h.left.ownF hg (fun r e => Kd.R_base h.out r e) hn⟩
/-- what was told, up to there -/
def outsR (b : Nat) (now : Int) (its : List S54) (t : Nat) : List Int := ((List.range t).filter (sentNow now its)).map fun j : Nat => (b : Int) + (j : Int)
theorem outsR_succ (b : Nat) (now : Int) (its : List S54) (t : Nat) : outsR b now its (t + 1) = if sentNow now its t = true then outsR b now its t ++ [(b : Int) + (t : Int)] else outsR b now its t := by
  unfold outsR
  rw [List.range_succ, List.filter_append, List.map_append]
  by_cases h : sentNow now its t = true
  · rw [if_pos h]; simp [h]
  · rw [if_neg h]; simp [h]
theorem outsR_length (b : Nat) (now : Int) (its : List S54) (t : Nat) : (outsR b now its t).length ≤ t := by
  unfold outsR
  rw [List.length_map]
  exact Nat.le_trans (List.length_filter_le _ _) (by simp)
end Go.Proofs.Ytfmggodmhklfoaa.Lib
