/- New; the methods of a nil sender: walked by hand. -/
import Derived.Test.YtfmggodmhklfoaaV6
namespace Go.Proofs.Ytfmggodmhklfoaa.Lib
open Go.RowKit Go.Proofs.YtfmggodmhklfoaaW.PrintWords Go.Proofs.YtfmggodmhklfoaaW.PrintLast Go.Proofs.YtfmggodmhklfoaaW.PrintMore
set_option linter.unusedVariables false
set_option linter.unusedSimpArgs false
attribute [local go_sem] max2_int min2_int max_two min_two
/-- what New asks of its arguments -/
def CfgOk (n wd fs ms : Int) : Prop := 0 ≤ n ∧ n ≤ 1048577 ∧ 1 ≤ wd ∧ wd ≤ 64 ∧ 1 ≤ fs ∧ fs ≤ ms ∧ ms ≤ 65536
set_option maxRecDepth 100000 in
theorem new_walk (n wd fs ms : Int) (w : World) (h : CfgOk n wd fs ms) :
    Calls Try.prog 9 #[.int .i64 n, .int .i64 wd, .int .i64 fs, .int .i64 ms] w fun e w' => ∃ g, e = .returned (.tuple #[.pointer (some ⟨g, 0, none⟩), .int .i64 0]) ∧ IsSd w' w.heap.size g ⟨n, wd, fs, ms⟩ 0 0 (.slice none 0 0) [] ∧ Below w.heap.size w w' ∧ w.heap.size ≤ g := by
  obtain ⟨h1, h2, h3, h4, h5, h6, h7⟩ := h
  have d1 : decide (n < 0) = false := decide_eq_false (by omega)
  have d2 : decide (1048577 < n) = false := decide_eq_false (by omega)
  have d3 : decide (wd < 1) = false := decide_eq_false (by omega)
  have d4 : decide (64 < wd) = false := decide_eq_false (by omega)
  have d5 : decide (fs < 1) = false := decide_eq_false (by omega)
  have d6 : decide (ms < fs) = false := decide_eq_false (by omega)
  have d7 : decide (65536 < ms) = false := decide_eq_false (by omega)
  go_enter Try.func9, Try.ntmps9
  go_wp2
  go_ret2
  exact ⟨_, rfl, ⟨by simpa using heap_alloc_new w _, Nat.le_refl _, Kd.Q_nil _ _ _ _ _⟩, (Below.refl _ _).alloc (Nat.le_refl _) _, Nat.le_refl _⟩
theorem cfg_bad {n wd fs ms : Int} (h : ¬ CfgOk n wd fs ms) : n < 0 ∨ (¬ n < 0 ∧ 1048577 < n) ∨ (¬ n < 0 ∧ ¬ 1048577 < n ∧ wd < 1) ∨ (¬ n < 0 ∧ ¬ 1048577 < n ∧ ¬ wd < 1 ∧ 64 < wd) ∨ (¬ n < 0 ∧ ¬ 1048577 < n ∧ ¬ wd < 1 ∧ ¬ 64 < wd ∧ fs < 1) ∨ (¬ n < 0 ∧ ¬ 1048577 < n ∧ ¬ wd < 1 ∧ ¬ 64 < wd ∧ ¬ fs < 1 ∧ ms < fs) ∨ (¬ n < 0 ∧ ¬ 1048577 < n ∧ ¬ wd < 1 ∧ ¬ 64 < wd ∧ ¬ fs < 1 ∧ ¬ ms < fs ∧ 65536 < ms) := by
  unfold CfgOk at h; omega
set_option maxRecDepth 100000 in
theorem new_bad (n wd fs ms : Int) (w : World) (h : ¬ CfgOk n wd fs ms) :
    Calls Try.prog 9 #[.int .i64 n, .int .i64 wd, .int .i64 fs, .int .i64 ms] w fun e w' => e = .returned (.tuple #[.pointer none, .int .i64 1]) ∧ w' = w := by
  go_enter Try.func9, Try.ntmps9
  rcases cfg_bad h with h1 | ⟨h1, h2⟩ | ⟨h1, h2, h3⟩ | ⟨h1, h2, h3, h4⟩ | ⟨h1, h2, h3, h4, h5⟩ | ⟨h1, h2, h3, h4, h5, h6⟩ | ⟨h1, h2, h3, h4, h5, h6, h7⟩
  · have d1 := decide_eq_true h1
    go_wp2
    go_ret2
    exact ⟨rfl, rfl⟩
  · have d1 := decide_eq_false h1
    have d2 := decide_eq_true h2
    go_wp2
    go_ret2
    exact ⟨rfl, rfl⟩
  · have d1 := decide_eq_false h1
    have d2 := decide_eq_false h2
    have d3 := decide_eq_true h3
    go_wp2
    go_ret2
    exact ⟨rfl, rfl⟩
  · have d1 := decide_eq_false h1
    have d2 := decide_eq_false h2
    have d3 := decide_eq_false h3
    have d4 := decide_eq_true h4
    go_wp2
    go_ret2
    exact ⟨rfl, rfl⟩
  · have d1 := decide_eq_false h1
    have d2 := decide_eq_false h2
    have d3 := decide_eq_false h3
    have d4 := decide_eq_false h4
    have d5 := decide_eq_true h5
    go_wp2
    go_ret2
    exact ⟨rfl, rfl⟩
  · have d1 := decide_eq_false h1
    have d2 := decide_eq_false h2
    have d3 := decide_eq_false h3
    have d4 := decide_eq_false h4
    have d5 := decide_eq_false h5
    have d6 := decide_eq_true h6
    go_wp2
    go_ret2
    exact ⟨rfl, rfl⟩
  · have d1 := decide_eq_false h1
    have d2 := decide_eq_false h2
    have d3 := decide_eq_false h3
    have d4 := decide_eq_false h4
    have d5 := decide_eq_false h5
    have d6 := decide_eq_false h6
    have d7 := decide_eq_true h7
    go_wp2
    go_ret2
    exact ⟨rfl, rfl⟩
set_option maxRecDepth 100000 in
theorem base_nil (w : World) : Calls Try.prog 17 #[.pointer none] w fun e w' => e = .returned (.int .i64 0) ∧ Drawn0 w w' := by
  go_enter Try.func17, Try.ntmps17
  go_wp2
  go_ret
  exact ⟨rfl, Drawn0.refl _⟩
set_option maxRecDepth 100000 in
theorem done_nil (w : World) : Calls Try.prog 21 #[.pointer none] w fun e w' => e = .returned (.bool false) ∧ Drawn0 w w' := by
  go_enter Try.func21, Try.ntmps21
  go_wp2
  go_quiet (fail)
  go_wp2
  go_ret
  exact ⟨rfl, ⟨_, rfl⟩⟩
set_option maxRecDepth 100000 in
theorem ack_nil (next : Int) (vr : Value) (w : World) : Calls Try.prog 12 #[.pointer none, .int .i64 next, vr] w fun e w' => e = .returned (.tuple #[]) ∧ Drawn0 w w' := by
  go_enter Try.func12, Try.ntmps12
  go_wp2
  refine bodyPost_ret (results_none rfl _ _ _) rfl ?_
  exact ⟨rfl, Drawn0.refl _⟩
set_option maxRecDepth 100000 in
theorem flight_nil (w : World) : Calls Try.prog 19 #[.pointer none] w fun e w' => e = .returned (.int .i64 0) ∧ Below w.heap.size w w' := by
  refine (callsIn_wide (n := 3)).1 ?_
  refine callsIn_of_wp_marks Try.func19 rfl trivial ?_ rfl
  simp only [Try.ntmps19, List.size_toArray, List.length_cons, List.length_nil, Nat.reduceAdd, Nat.reduceSub, Array.replicate_succ, Array.replicate_zero, List.push_toArray, List.append_toArray, List.nil_append, List.cons_append]
  gi_wp2
  exact ⟨_, results_tmp rfl _ _ _, rfl, (Below.refl _ _).alloc (Nat.le_refl _) _⟩
set_option maxRecDepth 100000 in
theorem tick_nil (w : World) : Calls Try.prog 15 #[.pointer none] w fun e w' => e = .returned (.slice none 0 0) ∧ Below w.heap.size w w' := by
  refine (callsIn_wide (n := 3)).1 ?_
  refine callsIn_of_wp_marks Try.func15 rfl trivial ?_ rfl
  simp only [Try.ntmps15, List.size_toArray, List.length_cons, List.length_nil, Nat.reduceAdd, Nat.reduceSub, Array.replicate_succ, Array.replicate_zero, List.push_toArray, List.append_toArray, List.nil_append, List.cons_append]
  refine wpIn_wide.2 ?_
  go_wp2
  go_step3
  go_wp2
  rw [Exit.noGoto_ret]
  exact ⟨_, results_tmp rfl _ _ _, rfl, (Below.refl _ _).alloc (Nat.le_refl _) _⟩
end Go.Proofs.Ytfmggodmhklfoaa.Lib
