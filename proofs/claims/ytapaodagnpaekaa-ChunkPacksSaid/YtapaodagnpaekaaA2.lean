/- ChunkPacks: the row: of no chunks walked by hand, of some by the printed walk. -/
import Derived.Test.YtapaodagnpaekaaP1
namespace Go.Proofs.Ytapaodagnpaekaa.Lib
open Go.RowKit Go.Proofs.YtapaodagnpaekaaW.PrintWords Go.Proofs.YtapaodagnpaekaaW.PrintLast Go.Proofs.YtapaodagnpaekaaW.PrintMore
set_option linter.unusedVariables false
set_option linter.unusedSimpArgs false
theorem ref_nil : halftoneref11_Pack.f 4 [] = some (firstL, 0) := by
  simp [halftoneref11_Pack.f, halftoneref11_Pack.l0, halftoneref11_Pack.l1, halftoneref11_Pack.l2, halftoneref11_First.f, firstL]
theorem fx_ref (A : Option Addr) (c : Nat) (w : World) : Calls Try.prog 16 #[.slice A 0 c] w fun e w' => ∃ v, e = .returned (.tuple #[v, .int .i64 0]) ∧ Kd.R (Kd.int .u8) 5 w' w.heap.size (fun _ => True) v firstL ∧ Below w.heap.size w w' :=
  halftoneref11_Pack.calls 4 A c [] firstL 0 w ⟨rfl, by simp, fun h => absurd h (Nat.lt_irrefl 0)⟩ (Nat.zero_le _) ref_nil
set_option maxRecDepth 100000 in
theorem packs_nil (A : Option Addr) (c : Nat) (w : World) : Calls Try.prog 4 #[.slice A 0 c] w fun e w' => e = .returned (.bool true) ∧ Below w.heap.size w w' := by
  go_enter Try.func4, Try.ntmps4
  go_wp2_with fail
  refine (halftonelaw11_fixed.calls true w rfl).mono ?_
  rintro e w1 ⟨rfl, hb1⟩
  have HB1 := Aside0.mk hb1
  clear hb1
  go_wp2
  refine wp_loop_rounds 1 ?_
  rw [rounds_succ]
  go_wp2_with fail
  refine (fx_nil w1).mono ?_
  rintro e w2 ⟨A2, c2, rfl, hc2, hC2, hb2⟩
  have HC2 := Aside0.mk hC2
  have HCC := Aside0.mk hc2
  have HB2 := Aside0.mk (below_then HB1.out HB1.out.size hb2)
  clear hC2 hc2 hb2
  go_wp2_with fail
  refine (fx_ref A c w2).mono ?_
  rintro e w3 ⟨v3, rfl, hR3, hb3⟩
  have HR3 := Aside0.mk hR3
  have HC3 := Aside0.mk (Kd.C_below HC2.out hb3)
  have HB3 := Aside0.mk (below_then HB2.out HB2.out.size hb3)
  clear hR3 hb3
  go_wp2
  refine wp_loop_rounds 1 ?_
  rw [rounds_succ]
  go_wp2_with fail
  refine (fx_same8 w3 A2 c2 v3 HC3.out HCC.out HR3.out).mono ?_
  rintro e w4 ⟨rfl, q4, rfl⟩
  go_wp2
  go_ret
  exact ⟨rfl, pw_below_drewN HB3.out q4⟩
theorem packs_row (A : Option Addr) (c : Nat) (cs : List S40) (w : World) (hr : Kd.C k40 w A cs.length cs) (hc : cs.length ≤ c) (hok : cs.length ≤ 9223372036854775807 ∧ cs.length * 40 ≤ 140737488351232 ∧ ∀ x ∈ cs, (x.f0.size ≤ 140737488351232 ∧ (x.f1.length ≤ 9223372036854775807 ∧ x.f1.length * 1 ≤ 140737488351232 ∧ ∀ b ∈ x.f1, (Lit.int .u8 b).wf = true))) :
    Calls Try.prog 4 #[.slice A cs.length c] w fun e w' => e = .returned (.bool true) ∧ Below w.heap.size w w' := by
  by_cases hne : cs.length = 0
  · rw [hne]
    exact packs_nil A c w
  · obtain ⟨k, hk⟩ := (ev_packs (by omega) hok.1 (fun x hx => by have := (hok.2.2 x hx).2.2.1; omega) (fun x hx => Bytes.of (hok.2.2 x hx).2.2.2) (fun x hx => (hok.2.2 x hx).1)).rounds
    exact halftonelaw11_ChunkPacks.calls k A c cs true w hr hc hk
end Go.Proofs.Ytapaodagnpaekaa.Lib
