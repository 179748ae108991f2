/- the document's sender and the sender, each kept over the other's calls; New refused. -/
import Derived.Test.YtfmggodmhklfoaaR7
namespace Go.Proofs.Ytfmggodmhklfoaa.Lib
open Go.RowKit Go.Shelf Go.Proofs.YtfmggodmhklfoaaW.PrintWords Go.Proofs.YtfmggodmhklfoaaW.PrintLast Go.Proofs.YtfmggodmhklfoaaW.PrintMore
set_option linter.unusedVariables false
set_option linter.unusedSimpArgs false
/-- a row of another type stays -/
theorem Left.keepQ {α : Type} {d : Kd α} {e tg tr : Nat} {w w' : World} {n₀ g base : Nat} {ok : Nat → Prop} {vs vs' v : Value} {l : List α} {cells : Array Value} (hL : Left w w' n₀ g vs vs') (hg : w.heap[g]? = some (.cells cells tg (0, 0))) (hr : ∀ k, vs.ownBlock = some k → ∃ cells, w.heap[k]? = some (.cells cells tr (0, 0)))
    (hE : d.E = []) (h1 : e ≠ tg) (h2 : e ≠ tr) (h : d.Q e w base ok v l) : d.Q e w' base ok v l := by
  refine Kd.Q_mono (Kd.Q_step (Kd.Q_bound h) (fun k ho hlt => ?_)) (fun _ h => h.1)
  obtain ⟨_, _, _, q, hq, cells1, hc⟩ := ho
  have hqe : q = e := by
    rcases List.mem_cons.1 hq with h | h
    · exact h
    · rw [hE] at h
      exact absurd h List.not_mem_nil
  subst hqe
  refine hL.keep.2 k hlt ?_ ?_
  · rintro rfl
    rw [hc] at hg
    injection hg with hg
    injection hg with _ hg
    exact h1 hg
  · intro e
    obtain ⟨cells2, h3⟩ := hr k e.symm
    rw [hc] at h3
    injection h3 with h3
    injection h3 with _ h3
    exact h2 h3
theorem IsSd.keep {w w' : World} {n₀ n₁ g gr : Nat} {c cr : Cfg} {bs nw nwr : Int} {vs vr vr' : Value} {its : List S54} {xs : List S57} (h : IsSd w n₀ g c bs nw vs its) (hR : IsRf w n₁ gr cr nwr vr xs) (hL : Left w w' n₁ gr vr vr') : IsSd w' n₀ g c bs nw vs its := by
  refine ⟨hL.keep.blk h.blk ?_ (Kd.Q_ne hR.row h.blk (by decide)), h.ge, hL.keepQ hR.blk (fun k e => Kd.Q_typed hR.row k e) rfl (by decide) (by decide) h.row⟩
  rintro rfl
  have h1 := h.blk
  rw [hR.blk] at h1
  simp at h1
theorem IsRf.keep {w w' : World} {n₀ n₁ g gr : Nat} {c cr : Cfg} {bs nw nwr : Int} {vs vr vs' : Value} {its : List S54} {xs : List S57} (hR : IsRf w n₁ gr cr nwr vr xs) (h : IsSd w n₀ g c bs nw vs its) (hL : Left w w' n₀ g vs vs') : IsRf w' n₁ gr cr nwr vr xs := by
  refine ⟨hL.keep.blk hR.blk ?_ (Kd.Q_ne h.row hR.blk (by decide)), hR.ge, hL.keepQ h.blk (fun k e => Kd.Q_typed h.row k e) rfl (by decide) (by decide) hR.row⟩
  rintro rfl
  have h1 := h.blk
  rw [hR.blk] at h1
  simp at h1
/-- what was told stays, over the document's calls -/
theorem R_leftR {w w' : World} {n₁ gr base : Nat} {ok : Nat → Prop} {cr : Cfg} {nwr : Int} {vr vr' v : Value} {xs : List S57} {l : List Int} (h : Kd.R (Kd.int .i64) 3 w base ok v l) (hR : IsRf w n₁ gr cr nwr vr xs) (hL : Left w w' n₁ gr vr vr') : Kd.R (Kd.int .i64) 3 w' base ok v l := by
  refine Kd.R_mono (Kd.R_step (Kd.R_bound h) (fun k ho hlt => ?_)) (fun _ h => h.1)
  obtain ⟨_, _, _, q, hq, cells, hc⟩ := ho
  have hq3 : q = 3 := by
    rcases List.mem_cons.1 hq with h | h
    · exact h
    · exact absurd (show q ∈ ([] : List Nat) from h) List.not_mem_nil
  subst hq3
  refine hL.keep.2 k hlt ?_ ?_
  · rintro rfl
    have := hR.blk
    rw [hc] at this
    simp at this
  · intro e
    obtain ⟨cells2, h2⟩ := Kd.Q_typed hR.row k e.symm
    rw [hc] at h2
    simp at h2
set_option maxRecDepth 100000 in
theorem rnew_bad (n wd fs ms : Int) (w : World) (h : ¬ CfgOk n wd fs ms) :
    Calls Try.prog 10 #[.int .i64 n, .int .i64 wd, .int .i64 fs, .int .i64 ms] w fun e w' => e = .returned (.tuple #[.pointer none, .int .i64 1]) ∧ w' = w := by
  go_enter Try.func10, Try.ntmps10
  rcases cfg_bad h with h1 | ⟨h1, h2⟩ | ⟨h1, h2, h3⟩ | ⟨h1, h2, h3, h4⟩ | ⟨h1, h2, h3, h4, h5⟩ | ⟨h1, h2, h3, h4, h5, h6⟩ | ⟨h1, h2, h3, h4, h5, h6, h7⟩
  · have d1 := decide_eq_true h1
    go_wp2
    go_ret2
    exact ⟨rfl, rfl⟩
  · have d1 := decide_eq_false h1
    have d2 := decide_eq_true h2
    go_wp2
    go_ret2
    exact ⟨rfl, rfl⟩
  · have d1 := decide_eq_false h1
    have d2 := decide_eq_false h2
    have d3 := decide_eq_true h3
    go_wp2
    go_ret2
    exact ⟨rfl, rfl⟩
  · have d1 := decide_eq_false h1
    have d2 := decide_eq_false h2
    have d3 := decide_eq_false h3
    have d4 := decide_eq_true h4
    go_wp2
    go_ret2
    exact ⟨rfl, rfl⟩
  · have d1 := decide_eq_false h1
    have d2 := decide_eq_false h2
    have d3 := decide_eq_false h3
    have d4 := decide_eq_false h4
    have d5 := decide_eq_true h5
    go_wp2
    go_ret2
    exact ⟨rfl, rfl⟩
  · have d1 := decide_eq_false h1
    have d2 := decide_eq_false h2
    have d3 := decide_eq_false h3
    have d4 := decide_eq_false h4
    have d5 := decide_eq_false h5
    have d6 := decide_eq_true h6
    go_wp2
    go_ret2
    exact ⟨rfl, rfl⟩
  · have d1 := decide_eq_false h1
    have d2 := decide_eq_false h2
    have d3 := decide_eq_false h3
    have d4 := decide_eq_false h4
    have d5 := decide_eq_false h5
    have d6 := decide_eq_false h6
    have d7 := decide_eq_true h7
    go_wp2
    go_ret2
    exact ⟨rfl, rfl⟩
end Go.Proofs.Ytfmggodmhklfoaa.Lib
