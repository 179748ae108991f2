/- The laws FilterDoes, FilterUndoes, FilterBack over the plain functions. -/
import Derived.Test.YtnnhbibbhcbkcaaP1
import Derived.Test.YtnnhbibbhcbkcaaAFilterDoes
import Derived.Test.YtnnhbibbhcbkcaaAFilterUndoes
import Derived.Test.YtnnhbibbhcbkcaaAFilterBack
namespace Go.Proofs.Ytnnhbibbhcbkcaa.Lib
open Go.RowKit Go.Proofs.YtnnhbibbhcbkcaaW.PrintWords Go.Proofs.YtnnhbibbhcbkcaaW.PrintLast Go.Proofs.YtnnhbibbhcbkcaaW.PrintMore
theorem FilterDoes : halftonelaw13_FilterDoes.Pure := by
  intro k row above s _ _ h1 h2 _ h3 h4 _
  have hr := BytesB.of h2
  have ha := BytesB.of h4
  have l1 : row.length ≤ 140737488355327 := by omega
  have l1' : row.length ≤ 140737488355328 := by omega
  have l2 : above.length ≤ 9223372036854775807 := by omega
  have g1 : row.length < 140737488355328 := by omega
  have g2 : above.length < 140737488355328 := by omega
  obtain ⟨K1, e1⟩ := ev_rdo k s hr ha l1
  obtain ⟨K2, e2⟩ := ev_fixed
  obtain ⟨K, hK⟩ : ∃ K, K1 + K2 + 1 = K := ⟨_, rfl⟩
  have f1 : halftoneref13_Do.f K k row above s = _ := e1 K (by omega)
  have f2 : halftonelaw13_fixed.f K = _ := e2 K (by omega)
  have f3 : filter_Do.f K k row above s = some (ans k s row above false) := by rw [← hK]; exact do_eq k s hr ha l1' l2 _
  refine ⟨K, ?_⟩
  unfold halftonelaw13_FilterDoes.f
  rw [f2, Option.bind_some, if_pos rfl, Option.bind_some, if_pos (by rw [List.length_nil, Nat.zero_add]; exact g1), Option.bind_some, Option.bind_some, if_pos (by rw [List.length_nil, Nat.zero_add]; exact g2), Option.bind_some, List.nil_append, List.nil_append, f3, Option.bind_some, f1, Option.bind_some, if_pos rfl]
  rw [same_eq (ans_bytes k s row above false) (ans_bytes k s row above false), Option.bind_some, if_pos (decide_eq_true rfl), same_eq hr hr, Option.bind_some, if_pos (decide_eq_true rfl), same_eq ha ha, Option.bind_some, decide_eq_true rfl]
theorem FilterUndoes : halftonelaw13_FilterUndoes.Pure := by
  intro k row above s _ _ h1 h2 _ h3 h4 _
  have hr := BytesB.of h2
  have ha := BytesB.of h4
  have l1 : row.length ≤ 140737488355327 := by omega
  have l1' : row.length ≤ 140737488355328 := by omega
  have l2 : above.length ≤ 9223372036854775807 := by omega
  have g1 : row.length < 140737488355328 := by omega
  have g2 : above.length < 140737488355328 := by omega
  obtain ⟨K1, e1⟩ := ev_rundo k s hr ha l1
  obtain ⟨K2, e2⟩ := ev_fixed
  obtain ⟨K, hK⟩ : ∃ K, K1 + K2 + 1 = K := ⟨_, rfl⟩
  have f1 : halftoneref13_Undo.f K k row above s = _ := e1 K (by omega)
  have f2 : halftonelaw13_fixed.f K = _ := e2 K (by omega)
  have f3 : filter_Undo.f K k row above s = some (ans k s row above true) := by rw [← hK]; exact undo_eq k s hr ha l1' l2 _
  refine ⟨K, ?_⟩
  unfold halftonelaw13_FilterUndoes.f
  rw [f2, Option.bind_some, if_pos rfl, Option.bind_some, if_pos (by rw [List.length_nil, Nat.zero_add]; exact g1), Option.bind_some, Option.bind_some, if_pos (by rw [List.length_nil, Nat.zero_add]; exact g2), Option.bind_some, List.nil_append, List.nil_append, f3, Option.bind_some, f1, Option.bind_some, if_pos rfl]
  rw [same_eq (ans_bytes k s row above true) (ans_bytes k s row above true), Option.bind_some, if_pos (decide_eq_true rfl), same_eq hr hr, Option.bind_some, if_pos (decide_eq_true rfl), same_eq ha ha, Option.bind_some, decide_eq_true rfl]
theorem small {a m : Int} (h : 0 ≤ a ∧ a ≤ 255) (hm : 1 ≤ m) (hm2 : m ≤ 100) : 0 ≤ wrap64 (Int.tmod a m) ∧ wrap64 (Int.tmod a m) ≤ m - 1 := by
  rw [Int.tmod_eq_emod_of_nonneg h.1]
  have p1 := Int.emod_nonneg a (show m ≠ 0 by omega)
  have p2 := Int.emod_lt_of_pos a (show 0 < m by omega)
  unfold wrap64; omega
theorem chk_ok {k s : Int} (h1 : 1 ≤ s) (h2 : s ≤ 8) (h3 : 0 ≤ k) (h4 : k ≤ 4) : chk k s = 0 := by
  unfold chk; rw [if_neg (by omega), if_neg (by omega)]
theorem ans_ok {k s : Int} (row above : List Int) (undo : Bool) (h : chk k s = 0) : ans k s row above undo = (res k s row above undo, 0) := by unfold ans; rw [if_pos h]
theorem FilterBack : halftonelaw13_FilterBack.Pure := by
  intro k0 row above s0 hk0 _ h1 h2 _ h3 h4 hs0
  have hr := BytesB.of h2
  have ha := BytesB.of h4
  have l1' : row.length ≤ 140737488355328 := by omega
  have l2 : above.length ≤ 9223372036854775807 := by omega
  obtain ⟨k, hk⟩ : ∃ k, wrap64 (Int.tmod k0 5) = k := ⟨_, rfl⟩
  obtain ⟨s, hs⟩ : ∃ s, wrap64 (1 + wrap64 (Int.tmod s0 8)) = s := ⟨_, rfl⟩
  have kb := small (m := 5) (wf_u8 hk0) (by omega) (by omega)
  have sb := small (m := 8) (wf_u8 hs0) (by omega) (by omega)
  rw [hk] at kb
  have s1 : 1 ≤ s ∧ s ≤ 8 := by
    rw [← hs]
    generalize wrap64 (Int.tmod s0 8) = z at sb
    unfold wrap64; omega
  have hc := chk_ok (k := k) s1.1 s1.2 (by omega) (by omega)
  obtain ⟨K2, e2⟩ := ev_fixed
  have f2 : halftonelaw13_fixed.f (K2 + 1) = _ := e2 (K2 + 1) (by omega)
  refine ⟨K2 + 1, ?_⟩
  unfold halftonelaw13_FilterBack.f
  rw [f2, Option.bind_some, if_pos rfl, hk, hs, do_eq k s hr ha l1' l2, Option.bind_some, ans_ok _ _ _ hc]
  simp only []
  rw [undo_eq k s (res_bytes k s row above false) ha (by rw [res_len]; exact l1') l2, Option.bind_some, ans_ok _ _ _ hc, undo_eq k s hr ha l1' l2, Option.bind_some, ans_ok _ _ _ hc]
  simp only []
  rw [do_eq k s (res_bytes k s row above true) ha (by rw [res_len]; exact l1') l2, Option.bind_some, ans_ok _ _ _ hc]
  simp only [if_true]
  rw [undo_do k s1.1 hr, do_undo k s1.1 hr, same_eq hr hr, Option.bind_some, if_pos (decide_eq_true rfl), Option.bind_some, decide_eq_true rfl]
end Go.Proofs.Ytnnhbibbhcbkcaa.Lib
