/- the sender's state: its block, its row of items; New, Base, Done, mark: walked by hand. -/
import Derived.Test.YtfmggodmhklfoaaF0
import Derived.Deep.RegionLaw
import Derived.Deep.QuietTactic
import Derived.BigQuiet
namespace Go.Proofs.Ytfmggodmhklfoaa.Lib
open Go.RowKit Go.Proofs.YtfmggodmhklfoaaW.PrintWords Go.Proofs.YtfmggodmhklfoaaW.PrintLast Go.Proofs.YtfmggodmhklfoaaW.PrintMore
set_option linter.unusedVariables false
set_option linter.unusedSimpArgs false
attribute [local go_sem] max2_int min2_int max_two min_two
structure Cfg where
  n : Int
  wd : Int
  fs : Int
  ms : Int
/-- a sender: its block, its row of items -/
structure IsSd (W : World) (n₀ g : Nat) (c : Cfg) (bs nw : Int) (vs : Value) (its : List S54) : Prop where
  blk : W.heap[g]? = some (.cells #[.int .i64 c.n, .int .i64 c.wd, .int .i64 c.fs, .int .i64 c.ms, .int .i64 bs, .int .i64 nw, vs] 47 (0, 0))
  ge : n₀ ≤ g
  row : Kd.Q k54 54 W n₀ (fun _ => True) vs its
theorem ret_int {k : IntKind} {a b : Int} (h : a = b) : Ending.returned (.int k a) = .returned (.int k b) := by rw [h]
/-- its items' cells -/
theorem k54_cells {W : World} {n₀ g o n cap : Nat} {its : List S54} (h : Kd.Q k54 54 W n₀ (fun _ => True) (.slice (some ⟨g, o, none⟩) n cap) its) (i : Nat) (hi : i < n) :
    (W.cell? ⟨g, o + i * 4, none⟩ = some (.bool (its.getD i z54).f0) ∧ W.cell? ⟨g, o + i * 4 + 1, none⟩ = some (.bool (its.getD i z54).f1) ∧ W.cell? ⟨g, o + i * 4 + 2, none⟩ = some (.int .i64 (its.getD i z54).f2) ∧ W.cell? ⟨g, o + i * 4 + 3, none⟩ = some (.int .i64 (its.getD i z54).f3)) ∧
    ∀ j, W.frozen? ⟨g, o + i * 4 + j, none⟩ = false := by
  obtain ⟨c, hl, hM, hc, hf⟩ := Kd.Q_elem h z54 (i : Int) (by omega) (by omega)
  have e4 : k54.sz = 4 := rfl
  rw [e4] at hc hf
  simp only [Int.toNat_natCast] at hM hc hf
  obtain rfl := k54_openM hM
  exact ⟨⟨by simpa using hc 0 _ rfl, by simpa using hc 1 _ rfl, by simpa using hc 2 _ rfl, by simpa using hc 3 _ rfl⟩, hf⟩
/-- one cell of an item is written -/
theorem k54_set {W : World} {n₀ g o n cap : Nat} {its : List S54} (h : Kd.Q k54 54 W n₀ (fun _ => True) (.slice (some ⟨g, o, none⟩) n cap) its) (i : Nat) (hi : i < n) (j : Nat) (u : Value) (x' : S54) (hj : j < 4)
    (hx : [Value.bool (its.getD i z54).f0, .bool (its.getD i z54).f1, .int .i64 (its.getD i z54).f2, .int .i64 (its.getD i z54).f3].set j u = [.bool x'.f0, .bool x'.f1, .int .i64 x'.f2, .int .i64 x'.f3]) :
    Kd.Q k54 54 (W.setCell ⟨g, o + i * 4 + j, none⟩ u) n₀ (fun _ => True) (.slice (some ⟨g, o, none⟩) n cap) (its.set i x') := by
  obtain ⟨c, hl, hM, hc, hf⟩ := Kd.Q_elem h z54 (i : Int) (by omega) (by omega)
  have e4 : k54.sz = 4 := rfl
  rw [e4] at hc
  simp only [Int.toNat_natCast] at hM hc
  obtain rfl := k54_openM hM
  have h2 := Kd.Q_seg (okp := fun k => k ≠ g) h (i : Int) (by omega) (by omega) (c := [Value.bool (its.getD i z54).f0, .bool (its.getD i z54).f1, .int .i64 (its.getD i z54).f2, .int .i64 (its.getD i z54).f3]) (seg := [u]) (j := j) (by rw [e4]; rfl) (by rw [e4]; simpa using hc) (by rw [e4]; simp; omega) (x' := x') (by
    have e : [Value.bool (its.getD i z54).f0, .bool (its.getD i z54).f1, .int .i64 (its.getD i z54).f2, .int .i64 (its.getD i z54).f3].take j ++ [u] ++ [Value.bool (its.getD i z54).f0, .bool (its.getD i z54).f1, .int .i64 (its.getD i z54).f2, .int .i64 (its.getD i z54).f3].drop (j + [u].length) = [.bool x'.f0, .bool x'.f1, .int .i64 x'.f2, .int .i64 x'.f3] := by
      rw [← hx]
      rcases j with _ | _ | _ | _ | j
      · rfl
      · rfl
      · rfl
      · rfl
      · omega
    rw [e]
    exact k54_mkM _ _ _ _) (fun k hk => ⟨trivial, hk⟩)
  have h3 := h2.1
  rw [e4] at h3
  simpa [World.setCells] using h3
theorem IsSd.ext {W W1 : World} {n₀ g : Nat} {c : Cfg} {bs nw : Int} {vs : Value} {its : List S54} (h : IsSd W n₀ g c bs nw vs its) (hb : Below W.heap.size W W1) : IsSd W1 n₀ g c bs nw vs its :=
  ⟨blk_below h.blk hb, h.ge, Kd.Q_below h.row hb⟩
theorem IsSd.drewN {W : World} {n₀ g : Nat} {c : Cfg} {bs nw : Int} {vs : Value} {its : List S54} (h : IsSd W n₀ g c bs nw vs its) (m : Nat) : IsSd (W.drewN m) n₀ g c bs nw vs its :=
  h.ext (pw_below_drewN (Below.refl _ _) m)
theorem IsSd.ne {W : World} {n₀ g gb o n cap : Nat} {c : Cfg} {bs nw : Int} {its : List S54} (h : IsSd W n₀ g c bs nw (.slice (some ⟨gb, o, none⟩) n cap) its) : gb ≠ g := fun e => Kd.Q_ne h.row h.blk (by decide) (by rw [← e]; rfl)
theorem IsSd.set1 {W : World} {n₀ g gb o n cap : Nat} {c : Cfg} {bs nw : Int} {its : List S54} (h : IsSd W n₀ g c bs nw (.slice (some ⟨gb, o, none⟩) n cap) its) (i : Nat) (hi : i < n) (j : Nat) (u : Value) (x' : S54) (hj : j < 4)
    (hx : [Value.bool (its.getD i z54).f0, .bool (its.getD i z54).f1, .int .i64 (its.getD i z54).f2, .int .i64 (its.getD i z54).f3].set j u = [.bool x'.f0, .bool x'.f1, .int .i64 x'.f2, .int .i64 x'.f3]) :
    IsSd (W.setCell ⟨gb, o + i * 4 + j, none⟩ u) n₀ g c bs nw (.slice (some ⟨gb, o, none⟩) n cap) (its.set i x') :=
  ⟨blk_far h.blk (p := ⟨gb, o + i * 4 + j, none⟩) (fun e => h.ne e.symm) u, h.ge, k54_set h.row i hi j u x' hj hx⟩
/-- which items are marked: those from a on, ahead of b -/
def markL (bs : Int) (its : List S54) (a b : Int) : List S54 := its.mapIdx fun i x => if a ≤ bs + i ∧ bs + i < b then { x with f0 := true } else x
theorem markL_length (bs : Int) (its : List S54) (a b : Int) : (markL bs its a b).length = its.length := by simp [markL]
theorem markL_none {bs : Int} {its : List S54} {a b : Int} (h : ∀ i : Nat, i < its.length → ¬ (a ≤ bs + i ∧ bs + i < b)) : markL bs its a b = its := by
  apply List.ext_getElem (by simp [markL])
  intro i h1 h2
  simp only [markL, List.getElem_mapIdx]
  rw [if_neg (h i h2)]
theorem markL_congr {bs : Int} {its : List S54} {a b b' : Int} (h : ∀ i : Nat, i < its.length → ((a ≤ bs + i ∧ bs + i < b) ↔ (a ≤ bs + i ∧ bs + i < b'))) : markL bs its a b = markL bs its a b' := by
  apply List.ext_getElem (by simp [markL])
  intro i h1 h2
  simp only [markL, List.getElem_mapIdx]
  have := h i (by simpa [markL] using h1)
  by_cases hc : a ≤ bs + i ∧ bs + i < b
  · rw [if_pos hc, if_pos (this.1 hc)]
  · rw [if_neg hc, if_neg (fun h => hc (this.2 h))]
theorem markL_step {bs : Int} {its : List S54} {a : Int} (k : Nat) (hk : k < its.length) (ha : a ≤ bs + k) : markL bs its a (bs + k + 1) = (markL bs its a (bs + k)).set k { ((markL bs its a (bs + k)).getD k z54) with f0 := true } := by
  apply List.ext_getElem (by simp [markL])
  intro i h1 h2
  have hi : i < its.length := by simpa [markL] using h1
  rw [List.getElem_set]
  by_cases e : k = i
  · subst e
    rw [if_pos rfl]
    simp only [markL, List.getElem_mapIdx, List.getD_eq_getElem?_getD, List.getElem?_mapIdx]
    rw [if_pos ⟨ha, by omega⟩]
    rw [List.getElem?_eq_getElem hi]
    simp only [Option.map_some, Option.getD_some]
    rw [if_neg (by omega)]
  · rw [if_neg e]
    simp only [markL, List.getElem_mapIdx]
    by_cases hc : a ≤ bs + i ∧ bs + i < bs + k
    · rw [if_pos hc, if_pos ⟨hc.1, by omega⟩]
    · rw [if_neg hc, if_neg (fun h => hc ⟨h.1, by omega⟩)]
theorem wrap64_in {x : Int} (h1 : -9223372036854775808 ≤ x) (h2 : x ≤ 9223372036854775807) : wrap64 x = x := by
  unfold wrap64; omega
set_option maxRecDepth 100000 in
theorem base_walk {n₀ g : Nat} {c : Cfg} {bs nw : Int} {vs : Value} {its : List S54} (w : World) (hI : IsSd w n₀ g c bs nw vs its) :
    Calls Try.prog 17 #[.pointer (some ⟨g, 0, none⟩)] w fun e w' => e = .returned (.int .i64 bs) ∧ Drawn0 w w' := by
  have hc := blk_cell hI.blk 4
  go_enter Try.func17, Try.ntmps17
  go_wp2
  go_ret
  exact ⟨rfl, Drawn0.refl _⟩
set_option maxRecDepth 100000 in
theorem done_walk {n₀ g : Nat} {c : Cfg} {bs nw : Int} {vs : Value} {its : List S54} (w : World) (hI : IsSd w n₀ g c bs nw vs its) :
    Calls Try.prog 21 #[.pointer (some ⟨g, 0, none⟩)] w fun e w' => e = .returned (.bool (bs == c.n)) ∧ Drawn0 w w' := by
  have hc := blk_cell hI.blk 4
  have hc0 := blk_cell hI.blk 0
  go_enter Try.func21, Try.ntmps21
  go_wp2
  go_quiet (fail)
  go_wp2
  go_ret
  exact ⟨rfl, ⟨_, rfl⟩⟩
end Go.Proofs.Ytfmggodmhklfoaa.Lib
