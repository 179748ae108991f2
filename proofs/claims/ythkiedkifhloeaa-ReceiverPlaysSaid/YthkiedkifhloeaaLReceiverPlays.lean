/- whatever items come, in any order, all that is told, held and ranged is what the document says; or the receiver is refused. -/
import Derived.Test.YthkiedkifhloeaaRows
import Derived.Test.YthkiedkifhloeaaOp
import Derived.Test.YthkiedkifhloeaaA4
import Derived.WalkKit
import Derived.ProofKit
import Derived.OpenShut
import Derived.ShutString
import Derived.ChangeOld
import Derived.Below
import Derived.SizedLaws
namespace Go.Proofs.Ythkiedkifhloeaa.receiverPlays
open Go.ChangeShapes Go.WideShapes Go.ChangeAt Go.RowKit
open Go.ChangeMaps (open_string shut_string)
set_option linter.unusedVariables false
theorem own : ownKnob Try.prog.godebug = none := by kernel_rfl
theorem laidOut : laidOutB Try.prog = true := by kernel_rfl
set_option maxRecDepth 100000 in
theorem lifted (os : Os) (started : os.Started) (H : Type) (enc : TypeId × Value → H) :
    ReturnsInHanded {} Try.checked os 4 .any (Rows.receiverPlaysSpec.pre6 enc Try.prog Try.f4 Rows.receiverPlaysRow.domain false) (Rows.receiverPlaysSpec.post enc Try.prog Try.f4 false true false false) := by
  refine returnsInHanded_of_change_sized (C := Try.checked) own started (by kernel_rfl) Try.func4
    (ChangeSpec.witness6 (enc := enc) (C := Try.checked) false ⟨#[], #[.int .i64 0, .int .i64 0, .slice none 0 0], []⟩ 8 (by kernel_rfl) (by kernel_rfl) (by kernel_rfl) (by kernel_rfl)) ?_
  intro W base args ds gs before hval0 hW hcnd hsz0 _
  have hsz : (DataW.weightsEach Try.prog (Try.f4.params.toList ++ Rows.receiverPlaysSpec.plain.varTypes Try.prog) (ds ++ gs)).all (· ≤ reachBytes) = true := hsz0
  have hval : ∀ (j : Nat) t v, Try.f4.params[j]? = some t → args[j]? = some v → Value.okWide Try.prog W .any base t v := hval0
  have hW' := hW
  obtain ⟨p, q, hA0, hV, rfl, hfz, hnd⟩ := hW
  have hA : DataW.TrodAll enc Try.prog W 0 (fun _ => true) true Try.f4.params.toList args.toList ds p := hA0
  rw [Try.params4] at hA hval hsz
  obtain ⟨v0, vs0, d0, ds0, p0, q0, hargs, rfl, rfl, h0, r0⟩ := trodAll_cons hA
  obtain ⟨v1, vs1, d1, ds1, p1, q1, rfl, rfl, rfl, h1, r1⟩ := trodAll_cons r0
  obtain ⟨v2, vs2, d2, ds2, p2, q2, rfl, rfl, rfl, h2, r2⟩ := trodAll_cons r1
  obtain ⟨rfl, rfl, rfl⟩ := trodAll_nil r2
  obtain rfl : args = #[v0, v1, v2] := by cases args; simp_all
  obtain ⟨rfl, rfl⟩ := trodVars_none hV
  obtain ⟨a0, rfl, rfl, rfl, w0⟩ := open_int Try.underlying3 (hval 0 3 v0 rfl rfl) h0
  obtain ⟨a1, rfl, rfl, rfl, w1⟩ := open_int Try.underlying3 (hval 1 3 v1 rfl rfl) h1
  obtain ⟨A2, len2, cap2, rfl⟩ := okWide_slice Try.underlying32 (hval 2 32 v2 rfl rfl)
  have k2 := h2
  have lt2 : ∀ x ∈ p2, x.block < W.heap.size := by obtain ⟨m, hm⟩ := k2; exact DataW.trod_lt m _ _ _ hm
  obtain ⟨l2, rfl, hc2, hr2, w2⟩ := Lib.open_row (j := 2) (t := 32) (Lib.opens_slice (q := 38) (d := Lib.k38) (e := 38) (B := 32) Try.underlying32 (by kernel_rfl) (by kernel_rfl) (Lib.opens_struct2 (d := Go.Proofs.YthkiedkifhloeaaW.PrintWords.Kd.int .i64) (d1 := Go.Proofs.YthkiedkifhloeaaW.PrintWords.Kd.slice 5 (Go.Proofs.YthkiedkifhloeaaW.PrintWords.Kd.int .u8)) Try.underlying38 (by kernel_rfl) rfl rfl (by kernel_rfl) (by kernel_rfl) (Lib.opens_int Try.underlying3) (Lib.opens_slice (q := 5) (d := Go.Proofs.YthkiedkifhloeaaW.PrintWords.Kd.int .u8) (e := 5) (B := 1) Try.underlying22 (by kernel_rfl) (by kernel_rfl) (Lib.opens_int Try.underlying5)))) hsz rfl rfl h2
  clear hA0 hval0 hsz0 hsz
  refine (Lib.plays_row a0 a1 _ _ l2 W w0 w1 hr2 hc2 w2).mono ?_
  rintro e W' ⟨he, bel⟩
  subst he
  exact ⟨_, rfl, _, _, _, [], _, [], hW', trodAll_mk1 (shut_bool Try.underlying4 _), (trodAll_cons_mk (shut_int Try.underlying3 w0) (trodAll_cons_mk (shut_int Try.underlying3 w1) (trodAll_cons_mk (Below.trod laidOut (by kernel_rfl) (of_decide_eq_true (by kernel_rfl)) k2 bel lt2) trodAll_mk0))), rfl, bel.frame _, fun h => by cases h⟩
theorem over : Rows.ReceiverPlaysSaid :=
  OpenClaim.holds_of_wide 4 Try.f4 rfl rfl rfl rfl rfl rfl rfl ⟨rfl, rfl, rfl, rfl, rfl⟩ rfl rfl rfl rfl rfl (by kernel_rfl) Try.func4 (by kernel_rfl)
    (of_decide_eq_true (by kernel_rfl)) (by unfold Func.isWrapper; first | (rw [if_pos (by decide +kernel)]; kernel_rfl) | (rw [if_neg (by decide +kernel)]; exact ⟨rfl, rfl⟩))
    (fun os started H enc _ => lifted os started H enc)
theorem proved : Rows.ReceiverPlaysSaid := over
#print axioms proved
end Go.Proofs.Ythkiedkifhloeaa.receiverPlays
namespace Go.Proofs.Ythkiedkifhloeaa
/-- The row, under a short name, for the claim. -/
theorem receiverPlays_holds : Rows.ReceiverPlaysSaid := receiverPlays.proved
end Go.Proofs.Ythkiedkifhloeaa
