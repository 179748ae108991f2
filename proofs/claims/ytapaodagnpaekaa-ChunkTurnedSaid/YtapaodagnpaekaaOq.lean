/- An argument that is a struct of two cells, opened. -/
import Derived.Test.YtapaodagnpaekaaOp
namespace Go.Proofs.Ytapaodagnpaekaa.Lib
open Go.ChangeShapes Go.WideShapes Go.Proofs.YtapaodagnpaekaaW.PrintWords
section
variable {P : Program} {α β : Type} {t e : TypeId} {d : Kd α} {ok : α → Prop}
theorem open_agg2 {fs : Array Field} (hu : P.underlying t = some (.struct fs)) (hc2 : P.cellsOf t = 2) {H : Type} {enc : TypeId × Value → H} {W : World} {base : Nat} {r : Reach} {b0 : Nat} {spare : Nat → Bool} {held : Bool} {v : Value} {dd : DataW H} {ps : List MemPlace} {ts : List TypeId} {ds : List (DataW H)} {j : Nat}
    (ho : Opens P t d ok) (hok : Value.okWide P W r b0 t v) (hsz : (DataW.weightsEach P ts ds).all (· ≤ reachBytes) = true) (ht : ts[j]? = some t) (hd : ds[j]? = some dd)
    (h : DataW.Trod enc P W base spare held t v dd ps) : ∃ c0 c1, v = .agg #[c0, c1] ∧ ∃ x, d.K W x [c0, c1] ∧ ok x := by
  obtain ⟨cs, rfl, hs⟩ := okWide_struct hu hok
  rw [hc2] at hs
  obtain ⟨cs⟩ := cs
  match cs, hs with
  | [c0, c1], _ =>
    obtain ⟨fuel, hf⟩ := h
    obtain ⟨x, hK, hk⟩ := ho enc W base spare held fuel _ _ hf (fun n hn => by
      have := List.all_eq_true.1 hsz _ (DataW.weights_mem_each ht hd n hn)
      simpa using this)
    exact ⟨c0, c1, rfl, x, hK, hk⟩
end
end Go.Proofs.Ytapaodagnpaekaa.Lib
