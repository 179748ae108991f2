/- The law AdlerLong over the plain functions. -/
import Derived.Test.YtgfhggbnlnpebaaP3
import Derived.Test.YtgfhggbnlnpebaaF4
namespace Go.Proofs.Ytgfhggbnlnpebaa.Lib
open Go.RowKit Go.Proofs.YtgfhggbnlnpebaaW.PrintWords Go.Proofs.YtgfhggbnlnpebaaW.PrintLast
theorem long_runs (c : Int) (hc : 0 ≤ c ∧ c ≤ 255) (d : Nat) : ∀ (i : Nat) (x : List Int), x.length < 65536 → Bytes x → i + d = x.length → Ev (fun k => halftonelaw04_AdlerLong.l0 k c x x.length i) true := by
  induction d with
  | zero =>
    intro i x hx hb hi
    obtain ⟨m, hm⟩ : ∃ m, x.length / 2 = m := ⟨_, rfl⟩
    have q0 : ¬ ((i : Int) < (x.length : Int)) := by omega
    have q1 : (0 : Int) ≤ (m : Int) := by omega
    have q2 : (m : Int) ≤ (x.length : Int) := by omega
    have q3 : x.length ≤ 9223372036854775806 := by omega
    have hw : wrap64 ((x.length : Int) / 2) = (m : Int) := by unfold wrap64; omega
    have hb1 : Bytes (x.take m) := hb.take m
    have hb2 : Bytes (x.drop m) := hb.drop m
    have hr := moreN_range 1 (x.take m)
    obtain ⟨K1, e1⟩ := ev_of x hb
    obtain ⟨K2, e2⟩ := ev_rof x hb q3
    obtain ⟨K3, e3⟩ := ev_of (x.take m) hb1
    obtain ⟨K4, e4⟩ := ev_more (moreN 1 (x.take m)) (x.drop m) hr.1 hr.2 hb2
    rw [moreN_app, List.take_append_drop] at e4
    refine ⟨K1 + K2 + K3 + K4 + 1, fun k hk => ?_⟩
    obtain ⟨k, rfl⟩ : ∃ m, k = m + 1 := ⟨k - 1, by omega⟩
    have f1 : adler_Of.f k x = _ := e1 k (by omega)
    have f2 : halftoneref04_Of.f k x = _ := e2 k (by omega)
    have f3 : adler_Of.f k (x.take m) = _ := e3 k (by omega)
    have f4 : adler_More.f k _ (x.drop m) = _ := e4 k (by omega)
    show halftonelaw04_AdlerLong.l0 (k + 1) _ _ _ _ = _
    rw [halftonelaw04_AdlerLong.l0, if_neg q0, f1, Option.bind_some, f2, Option.bind_some, if_pos rfl, hw, if_pos q1, if_pos q2, Int.toNat_natCast, f3, Option.bind_some, f4, Option.bind_some, beq_self_eq_true]
  | succ d ih =>
    intro i x hx hb hi
    obtain ⟨K, h⟩ := ih (i + 1) (x.set i c) (by rw [List.length_set]; exact hx) (fun v hv => by
      rcases List.mem_or_eq_of_mem_set hv with h | h
      · exact hb v h
      · subst h; exact hc) (by rw [List.length_set]; omega)
    refine ⟨K + 1, fun k hk => ?_⟩
    obtain ⟨k, rfl⟩ : ∃ m, k = m + 1 := ⟨k - 1, by omega⟩
    have f1 : halftonelaw04_AdlerLong.l0 k _ _ _ _ = _ := h k (by omega)
    rw [List.length_set] at f1
    show halftonelaw04_AdlerLong.l0 (k + 1) _ _ _ _ = _
    rw [halftonelaw04_AdlerLong.l0, if_pos (by omega), if_pos (by omega), if_pos (by omega), Int.toNat_natCast, show wrap64 ((i : Int) + 1) = ((i + 1 : Nat) : Int) by unfold wrap64; omega, f1]
theorem AdlerLong : halftonelaw04_AdlerLong.Pure := by
  intro c n h0 h1
  have hc := wf_u8 h0
  have hn := wf_u16 h1
  obtain ⟨m, hm⟩ : ∃ m : Nat, wrap64 n = (m : Int) := ⟨n.toNat, by unfold wrap64; omega⟩
  have hm2 : m < 65536 := by unfold wrap64 at hm; omega
  obtain ⟨K, h⟩ := long_runs c hc m 0 (List.replicate m 0) (by rw [List.length_replicate]; exact hm2) (fun v hv => by rw [List.eq_of_mem_replicate hv]; omega) (by rw [List.length_replicate]; omega)
  have f1 : halftonelaw04_AdlerLong.l0 K _ _ _ _ = _ := h K (Nat.le_refl _)
  refine ⟨K, ?_⟩
  unfold halftonelaw04_AdlerLong.f halftonelaw04_fixed.f
  rw [Option.bind_some, if_pos rfl, hm, if_pos (by omega), Int.toNat_natCast, if_pos (by omega), Option.bind_some]
  exact f1
end Go.Proofs.Ytgfhggbnlnpebaa.Lib
