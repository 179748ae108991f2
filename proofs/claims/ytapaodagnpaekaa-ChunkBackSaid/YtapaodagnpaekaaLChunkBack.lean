/- chunks packed are read back as they were, whatever the size of the pieces. -/
import Derived.Test.YtapaodagnpaekaaRows
import Derived.Test.YtapaodagnpaekaaOp
import Derived.Test.YtapaodagnpaekaaA4
import Derived.WalkKit
import Derived.ProofKit
import Derived.OpenShut
import Derived.ShutString
import Derived.ChangeOld
import Derived.Below
import Derived.SizedLaws
namespace Go.Proofs.Ytapaodagnpaekaa.chunkBack
open Go.ChangeShapes Go.WideShapes Go.ChangeAt Go.RowKit
open Go.ChangeMaps (open_string shut_string)
set_option linter.unusedVariables false
theorem own : ownKnob Try.prog.godebug = none := by kernel_rfl
theorem laidOut : laidOutB Try.prog = true := by kernel_rfl
set_option maxRecDepth 100000 in
theorem lifted (os : Os) (started : os.Started) (H : Type) (enc : TypeId × Value → H) :
    ReturnsInHanded {} Try.checked os 5 .any (Rows.chunkBackSpec.pre6 enc Try.prog Try.f5 Rows.chunkBackRow.domain false) (Rows.chunkBackSpec.post enc Try.prog Try.f5 false true false false) := by
  refine returnsInHanded_of_change_sized (C := Try.checked) own started (by kernel_rfl) Try.func5
    (ChangeSpec.witness6 (enc := enc) (C := Try.checked) false ⟨#[], #[.slice none 0 0, .int .u8 0], []⟩ 8 (by kernel_rfl) (by kernel_rfl) (by kernel_rfl) (by kernel_rfl)) ?_
  intro W base args ds gs before hval0 hW hcnd hsz0 _
  have hsz : (DataW.weightsEach Try.prog (Try.f5.params.toList ++ Rows.chunkBackSpec.plain.varTypes Try.prog) (ds ++ gs)).all (· ≤ reachBytes) = true := hsz0
  have hval : ∀ (j : Nat) t v, Try.f5.params[j]? = some t → args[j]? = some v → Value.okWide Try.prog W .any base t v := hval0
  have hW' := hW
  obtain ⟨p, q, hA0, hV, rfl, hfz, hnd⟩ := hW
  have hA : DataW.TrodAll enc Try.prog W 0 (fun _ => true) true Try.f5.params.toList args.toList ds p := hA0
  rw [Try.params5] at hA hval hsz
  obtain ⟨v0, vs0, d0, ds0, p0, q0, hargs, rfl, rfl, h0, r0⟩ := trodAll_cons hA
  obtain ⟨v1, vs1, d1, ds1, p1, q1, rfl, rfl, rfl, h1, r1⟩ := trodAll_cons r0
  obtain ⟨rfl, rfl, rfl⟩ := trodAll_nil r1
  obtain rfl : args = #[v0, v1] := by cases args; simp_all
  obtain ⟨rfl, rfl⟩ := trodVars_none hV
  obtain ⟨A0, len0, cap0, rfl⟩ := okWide_slice Try.underlying38 (hval 0 38 v0 rfl rfl)
  have k0 := h0
  have lt0 : ∀ x ∈ p0, x.block < W.heap.size := by obtain ⟨m, hm⟩ := k0; exact DataW.trod_lt m _ _ _ hm
  obtain ⟨l0, rfl, hc0, hr0, w0⟩ := Lib.open_row (j := 0) (t := 38) (Lib.opens_slice (q := 40) (d := Lib.k40) (e := 40) (B := 40) Try.underlying38 (by kernel_rfl) (by kernel_rfl) (Lib.opens_iso (Lib.opens_struct2 (d := Go.Proofs.YtapaodagnpaekaaW.PrintWords.Kd.string) (d1 := Go.Proofs.YtapaodagnpaekaaW.PrintWords.Kd.slice 5 (Go.Proofs.YtapaodagnpaekaaW.PrintWords.Kd.int .u8)) Try.underlying40 (by kernel_rfl) rfl rfl (by kernel_rfl) (by kernel_rfl) (Lib.opens_string Try.underlying9) (Lib.opens_slice (q := 5) (d := Go.Proofs.YtapaodagnpaekaaW.PrintWords.Kd.int .u8) (e := 5) (B := 1) Try.underlying26 (by kernel_rfl) (by kernel_rfl) (Lib.opens_int Try.underlying5))) (fun x : Lib.S40 => (x.f0, x.f1)) (fun p => ⟨p.1, p.2⟩) (fun _ => rfl))) hsz rfl rfl h0
  obtain ⟨a1, rfl, rfl, rfl, w1⟩ := open_int Try.underlying5 (hval 1 5 v1 rfl rfl) h1
  clear hA0 hval0 hsz0 hsz
  refine (Lib.back_row _ _ l0 a1 W hr0 hc0 w0 w1).mono ?_
  rintro e W' ⟨he, bel⟩
  subst he
  exact ⟨_, rfl, _, _, _, [], _, [], hW', trodAll_mk1 (shut_bool Try.underlying4 _), (trodAll_cons_mk (Below.trod laidOut (by kernel_rfl) (of_decide_eq_true (by kernel_rfl)) k0 bel lt0) (trodAll_cons_mk (shut_int Try.underlying5 w1) trodAll_mk0)), rfl, bel.frame _, fun h => by cases h⟩
theorem over : Rows.ChunkBackSaid :=
  OpenClaim.holds_of_wide 5 Try.f5 rfl rfl rfl rfl rfl rfl rfl ⟨rfl, rfl, rfl, rfl, rfl⟩ rfl rfl rfl rfl rfl (by kernel_rfl) Try.func5 (by kernel_rfl)
    (of_decide_eq_true (by kernel_rfl)) (by unfold Func.isWrapper; first | (rw [if_pos (by decide +kernel)]; kernel_rfl) | (rw [if_neg (by decide +kernel)]; exact ⟨rfl, rfl⟩))
    (fun os started H enc _ => lifted os started H enc)
theorem proved : Rows.ChunkBackSaid := over
#print axioms proved
end Go.Proofs.Ytapaodagnpaekaa.chunkBack
namespace Go.Proofs.Ytapaodagnpaekaa
/-- The row, under a short name, for the claim. -/
theorem chunkBack_holds : Rows.ChunkBackSaid := chunkBack.proved
end Go.Proofs.Ytapaodagnpaekaa
