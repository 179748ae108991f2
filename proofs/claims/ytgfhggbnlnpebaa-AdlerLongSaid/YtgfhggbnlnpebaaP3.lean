/- AdlerParts as a plain law: what the loop over the parts comes to. -/
import Derived.Test.YtgfhggbnlnpebaaP0
import Derived.Test.YtgfhggbnlnpebaaF3
import Derived.Test.YtgfhggbnlnpebaaOp
namespace Go.Proofs.Ytgfhggbnlnpebaa.Lib
open Go.RowKit Go.Proofs.YtgfhggbnlnpebaaW.PrintWords Go.Proofs.YtgfhggbnlnpebaaW.PrintLast
theorem moreN_app (a b : List Int) : moreN (moreN 1 a) b = moreN 1 (a ++ b) := by
  have ga := go_lt a (1 % 65536 % 65521) (1 / 65536 % 65521) (by omega) (by omega) (by omega) (by omega)
  unfold moreN
  rw [go_app, num_low ga.1.1 ga.1.2, num_high ga.1.1 ga.1.2, Int.emod_eq_of_lt ga.1.1 ga.1.2, Int.emod_eq_of_lt ga.2.1 ga.2.2]
theorem isB_more (a : List Int) : isB (moreN 1 a) = true := by
  have ga := go_lt a (1 % 65536 % 65521) (1 / 65536 % 65521) (by omega) (by omega) (by omega) (by omega)
  unfold isB moreN
  rw [num_low ga.1.1 ga.1.2, num_high ga.1.1 ga.1.2]
  exact Bool.and_eq_true_iff.2 ⟨decide_eq_true ga.1.2, decide_eq_true ga.2.2⟩
theorem parts_runs (l : List (List Int)) (hl : ∀ x ∈ l, Bytes x) (_hn : l.length < 9223372036854775807) (d : Nat) : ∀ (i : Nat) (x3 : List Int), i + d = l.length → Bytes x3 → x3.length ≤ 20000 + 20000 →
    Ev (fun k => halftonelaw04_AdlerParts.l0 k x3 (moreN 1 x3) l l.length i) true := by
  induction d with
  | zero =>
    intro i x3 hi hb _
    obtain ⟨K, h⟩ := ev_of x3 hb
    have hr := moreN_range 1 x3
    refine ⟨K + 1, fun k hk => ?_⟩
    obtain ⟨k, rfl⟩ : ∃ m, k = m + 1 := ⟨k - 1, by omega⟩
    have e : adler_Of.f k x3 = _ := h k (by omega)
    show halftonelaw04_AdlerParts.l0 (k + 1) _ _ _ _ _ = _
    rw [halftonelaw04_AdlerParts.l0, if_neg (by omega), e]
    simp only [Option.bind_some, if_true]
    rw [is_eq hr.1 hr.2, isB_more]
    rfl
  | succ d ih =>
    intro i x3 hi hb h3
    have hlt : i < l.length := by omega
    have hrd : rd_L1 l (i : Int) = l[i] := by unfold rd_L1; simp [hlt]
    have hc := hl l[i] (List.getElem_mem hlt)
    have hr := moreN_range 1 x3
    by_cases g1 : (l[i].length : Int) > 20000
    · refine ⟨1, fun k hk => ?_⟩
      obtain ⟨k, rfl⟩ : ∃ m, k = m + 1 := ⟨k - 1, by omega⟩
      show halftonelaw04_AdlerParts.l0 (k + 1) _ _ _ _ _ = _
      rw [halftonelaw04_AdlerParts.l0, if_pos (by omega), if_pos (by omega), if_pos (by omega), hrd, if_pos g1]
    by_cases g2 : (i : Int) > 200
    · refine ⟨1, fun k hk => ?_⟩
      obtain ⟨k, rfl⟩ : ∃ m, k = m + 1 := ⟨k - 1, by omega⟩
      show halftonelaw04_AdlerParts.l0 (k + 1) _ _ _ _ _ = _
      rw [halftonelaw04_AdlerParts.l0, if_pos (by omega), if_pos (by omega), if_pos (by omega), hrd, if_neg g1, if_pos g2]
    by_cases g3 : (x3.length : Int) > 20000
    · refine ⟨1, fun k hk => ?_⟩
      obtain ⟨k, rfl⟩ : ∃ m, k = m + 1 := ⟨k - 1, by omega⟩
      show halftonelaw04_AdlerParts.l0 (k + 1) _ _ _ _ _ = _
      rw [halftonelaw04_AdlerParts.l0, if_pos (by omega), if_pos (by omega), if_pos (by omega), hrd, if_neg g1, if_neg g2, if_pos g3]
    obtain ⟨K1, h1⟩ := ev_more (moreN 1 x3) l[i] hr.1 hr.2 hc
    obtain ⟨K2, h2⟩ := ih (i + 1) (x3 ++ l[i]) (by omega) (hb.app hc) (by rw [List.length_append]; omega)
    refine ⟨K1 + K2 + 1, fun k hk => ?_⟩
    obtain ⟨k, rfl⟩ : ∃ m, k = m + 1 := ⟨k - 1, by omega⟩
    have e : adler_More.f k (moreN 1 x3) l[i] = _ := h1 k (by omega)
    have e2 : halftonelaw04_AdlerParts.l0 k _ _ _ _ _ = _ := h2 k (by omega)
    show halftonelaw04_AdlerParts.l0 (k + 1) _ _ _ _ _ = _
    rw [halftonelaw04_AdlerParts.l0, if_pos (by omega), if_pos (by omega), if_pos (by omega), hrd, if_neg g1, if_neg g2, if_neg g3, if_pos (by omega), e]
    simp only [Option.bind_some]
    rw [moreN_app, show wrap64 ((i : Int) + 1) = ((i + 1 : Nat) : Int) by unfold wrap64; omega, e2]
theorem AdlerParts (l : List (List Int)) (w : l.length ≤ 9223372036854775807 ∧ l.length * 24 ≤ 140737488351232 ∧ ∀ x ∈ l, x.length ≤ 9223372036854775807 ∧ x.length * 1 ≤ 140737488351232 ∧ ∀ y ∈ x, (Lit.int .u8 y).wf = true) :
    ∃ k, halftonelaw04_AdlerParts.f k l = some true := by
  obtain ⟨K, h⟩ := parts_runs l (fun x hx => Bytes.of (w.2.2 x hx).2.2) (by omega) l.length 0 [] (by omega) (fun x hx => by simp at hx) (by simp)
  refine ⟨K, ?_⟩
  have e : halftonelaw04_AdlerParts.l0 K _ _ _ _ _ = _ := h K (Nat.le_refl _)
  unfold halftonelaw04_AdlerParts.f halftonelaw04_fixed.f
  simp only [Option.bind_some, if_true]
  exact e
end Go.Proofs.Ytgfhggbnlnpebaa.Lib
