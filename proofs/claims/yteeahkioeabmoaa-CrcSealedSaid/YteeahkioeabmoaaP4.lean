/- The laws CrcTogether and CrcBursts over the plain functions. -/
import Derived.Test.YteeahkioeabmoaaP3
import Derived.Test.YteeahkioeabmoaaF4
import Derived.Test.YteeahkioeabmoaaF5
namespace Go.Proofs.Yteeahkioeabmoaa.Lib
open Go.RowKit Go.Proofs.YteeahkioeabmoaaW.PrintWords Go.Proofs.YteeahkioeabmoaaW.PrintLast Go.Proofs.YteeahkioeabmoaaW.PrintMore
theorem CrcTogether : halftonelaw03_CrcTogether.Pure := by
  intro a b h0 h1 h2 h3 h4 h5
  have ha := Bytes.of h2
  have hb := Bytes.of h5
  have la : a.length < 9223372036854775807 := by omega
  have lb : b.length < 9223372036854775807 := by omega
  clear h0 h1 h2 h3 h4 h5
  unfold halftonelaw03_CrcTogether.f halftonelaw03_fixed.f
  by_cases g : (wrap64 ((a.length : Int) + (b.length : Int))) > 6000
  · refine ⟨0, ?_⟩
    rw [Option.bind_some, if_pos rfl, if_pos g]
  obtain ⟨K1, e1⟩ := ev_of [a] (fun p hp => by rw [List.mem_singleton.1 hp]; exact ha) (fun p hp => by rw [List.mem_singleton.1 hp]; exact la) (by rw [List.length_singleton]; omega)
  obtain ⟨K2, e2⟩ := ev_of [b] (fun p hp => by rw [List.mem_singleton.1 hp]; exact hb) (fun p hp => by rw [List.mem_singleton.1 hp]; exact lb) (by rw [List.length_singleton]; omega)
  obtain ⟨K3, e3⟩ := ev_of [a, b] (fun p hp => by rcases List.mem_cons.1 hp with rfl | hp; exact ha; rw [List.mem_singleton.1 hp]; exact hb) (fun p hp => by rcases List.mem_cons.1 hp with rfl | hp; exact la; rw [List.mem_singleton.1 hp]; exact lb) (by show 2 < _; omega)
  obtain ⟨K4, e4⟩ := ev_join a b lb
  have f1 : crc_Of.f (K1 + K2 + K3 + K4) [a] = some (moreN 0 a) := by have := e1 (K1 + K2 + K3 + K4) (by omega); rwa [List.flatten_cons, List.flatten_nil, List.append_nil] at this
  have f2 : crc_Of.f (K1 + K2 + K3 + K4) [b] = some (moreN 0 b) := by have := e2 (K1 + K2 + K3 + K4) (by omega); rwa [List.flatten_cons, List.flatten_nil, List.append_nil] at this
  have f3 : crc_Of.f (K1 + K2 + K3 + K4) [a, b] = some (moreN 0 (a ++ b)) := by have := e3 (K1 + K2 + K3 + K4) (by omega); rwa [List.flatten_cons, List.flatten_cons, List.flatten_nil, List.append_nil] at this
  have f4 : crc_Join.f (K1 + K2 + K3 + K4) (moreN 0 a) (moreN 0 b) b.length = some (moreN 0 (a ++ b)) := e4 (K1 + K2 + K3 + K4) (by omega)
  refine ⟨K1 + K2 + K3 + K4, ?_⟩
  clear e1 e2 e3 e4
  generalize K1 + K2 + K3 + K4 = K at *
  generalize moreN 0 (a ++ b) = z at *
  rw [Option.bind_some, if_pos rfl, if_neg g, f1, Option.bind_some, f2, Option.bind_some, f4, Option.bind_some, f3, Option.bind_some, beq_self_eq_true]
theorem ones_eq (b c : List Int) (h : moreN 0 b = moreN 0 c) : run (~~~ reg 0) b = run (~~~ reg 0) c := by
  unfold moreN at h
  have := num_inj h
  have h2 := congrArg (fun z : W32 => ~~~ z) this
  simpa using h2
theorem CrcBursts : halftonelaw03_CrcBursts.Pure := by
  intro b a y _ h1 h2 h3 h4
  have hb := Bytes.of h2
  have ha := wf_u16 h3
  have hy := wf_u32 h4
  by_cases g0 : (b.length : Int) = 0
  · exact ⟨1, by unfold halftonelaw03_CrcBursts.f halftonelaw03_fixed.f; simp only [Option.bind_some, if_true]; rw [if_pos g0, halftonelaw03_CrcBursts.j0, if_pos rfl]⟩
  by_cases g1 : (b.length : Int) > 2000
  · exact ⟨1, by unfold halftonelaw03_CrcBursts.f halftonelaw03_fixed.f; simp only [Option.bind_some, if_true]; rw [if_neg g0, halftonelaw03_CrcBursts.j0, if_pos (decide_eq_true g1)]⟩
  obtain ⟨t, ht, htl⟩ : ∃ t : Nat, Int.tmod (wrap64 a) (wrap64 (8 * (b.length : Int))) = t ∧ t < 8 * b.length := by
    rw [show wrap64 a = a by unfold wrap64; omega, show wrap64 (8 * (b.length : Int)) = 8 * b.length by unfold wrap64; omega, Int.tmod_eq_emod_of_nonneg ha.1]
    have p1 := Int.emod_nonneg a (show (8 * b.length : Int) ≠ 0 by omega)
    have p2 := Int.emod_lt_of_pos a (show (0 : Int) < 8 * b.length by omega)
    exact ⟨(a % (8 * b.length)).toNat, by omega, by omega⟩
  obtain ⟨c, ⟨K1, e1⟩, hn, hc, hcl⟩ := ev_turned b hb (by omega) t htl y hy.1 hy.2
  obtain ⟨K2, e2⟩ := ev_of [b] (by simpa using hb) (by simp; omega) (by simp)
  obtain ⟨K3, e3⟩ := ev_of [c] (by simpa using hc) (by simp; omega) (by simp)
  refine ⟨K1 + K2 + K3 + 1, ?_⟩
  simp only [List.flatten_cons, List.flatten_nil, List.append_nil] at e1 e2 e3
  unfold halftonelaw03_CrcBursts.f halftonelaw03_fixed.f
  simp only [Option.bind_some, if_true]
  rw [if_neg g0, halftonelaw03_CrcBursts.j0, if_neg (by simpa using g1), if_neg (by unfold wrap64; omega), ht, e1 _ (by omega)]
  simp only [Option.bind_some]
  rw [same_eq hb hc]
  simp only [Option.bind_some]
  rw [e2 _ (by omega), e3 _ (by omega)]
  simp only [Option.bind_some, Option.some.injEq, beq_iff_eq]
  rw [Bool.eq_iff_iff, decide_eq_true_iff, beq_iff_eq]
  exact ⟨fun h => by rw [h], fun h => burst_shows b c hb hc t hn _ (ones_eq b c h)⟩
end Go.Proofs.Yteeahkioeabmoaa.Lib
