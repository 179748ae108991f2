/- receiver: the document's receiver in memory; its New, Next: walked by hand. -/
import Derived.Test.YthkiedkifhloeaaV10
namespace Go.Proofs.Ythkiedkifhloeaa.Lib
open Go.RowKit Go.Proofs.YthkiedkifhloeaaW.PrintWords Go.Proofs.YthkiedkifhloeaaW.PrintLast Go.Proofs.YthkiedkifhloeaaW.PrintMore
attribute [local go_sem] max2_int min2_int max_two min_two max_three min_three max_four min_four
set_option linter.unusedVariables false
set_option linter.unusedSimpArgs false
/-- the document's receiver in memory -/
structure IsRf (W : World) (B h : Nat) (vD vC : Value) (n : Nat) (ww : Int) (hs : List Hd) (bs : List Bool) : Prop where
  blk : W.heap[h]? = some (.cells #[vD, vC, .int .i64 ww] 55 (0, 0))
  ge : B ≤ h
  dat : Kd.R ksl 22 W B (fun _ => True) vD hs
  come : Kd.R Kd.bool 4 W B (fun _ => True) vC bs
  lh : hs.length = n
  lb : bs.length = n
section
variable {W W1 : World} {B h : Nat} {vD vC : Value} {n : Nat} {ww : Int} {hs : List Hd} {bs : List Bool}
theorem IsRf.below (hf : IsRf W B h vD vC n ww hs bs) (hb : Below W.heap.size W W1) : IsRf W1 B h vD vC n ww hs bs :=
  ⟨blk_below hf.blk hb, hf.ge, Kd.R_below hf.dat hb, Kd.R_below hf.come hb, hf.lh, hf.lb⟩
theorem IsRf.ty (hf : IsRf W B h vD vC n ww hs bs) (hk : ∀ k t : Nat, (t = 55 ∨ t = 22 ∨ t = 4) → (∃ cells, W.heap[k]? = some (Obj.cells cells t (0, 0))) → W1.heap[k]? = W.heap[k]?) : IsRf W1 B h vD vC n ww hs bs :=
  ⟨(hk h 55 (.inl rfl) ⟨_, hf.blk⟩).trans hf.blk, hf.ge, R_stT rfl hf.dat (fun k _ _ hc => hk k 22 (.inr (.inl rfl)) hc), R_stT rfl hf.come (fun k _ _ hc => hk k 4 (.inr (.inr rfl)) hc), hf.lh, hf.lb⟩
/-- one of the flags -/
theorem IsRf.flag {g c : Nat} (hf : IsRf W B h vD (.slice (some ⟨g, 0, none⟩) n c) n ww hs bs) (p : Nat) (hp : p < n) : W.cell? ⟨g, p, none⟩ = some (.bool (bs.getD p false)) ∧ W.frozen? ⟨g, p, none⟩ = false := by
  obtain ⟨cs, _, hM, hc, hfz⟩ := Kd.R_elem hf.come false (p : Int) (by omega) (by omega)
  obtain rfl : cs = [.bool (bs.getD (p : Int).toNat false)] := hM
  have h1 := hc 0 _ rfl
  have f1 := hfz 0
  have e2 : Kd.bool.sz = 1 := rfl
  rw [e2] at h1 f1
  simp only [Int.toNat_natCast, Nat.mul_one, Nat.add_zero] at h1 f1
  exact ⟨h1, f1⟩
theorem IsRf.datum {g c : Nat} (hf : IsRf W B h (.slice (some ⟨g, 0, none⟩) n c) vC n ww hs bs) (p : Nat) (hp : p < n) : W.cell? ⟨g, p, none⟩ = some (.slice (hs.getD p zh).1 (hs.getD p zh).2.1 (hs.getD p zh).2.2) ∧ W.frozen? ⟨g, p, none⟩ = false := by
  obtain ⟨cs, _, hM, hc, hfz⟩ := Kd.R_elem hf.dat zh (p : Int) (by omega) (by omega)
  obtain rfl : cs = [.slice (hs.getD (p : Int).toNat zh).1 (hs.getD (p : Int).toNat zh).2.1 (hs.getD (p : Int).toNat zh).2.2] := hM
  have h1 := hc 0 _ rfl
  have f1 := hfz 0
  have e2 : ksl.sz = 1 := rfl
  rw [e2] at h1 f1
  simp only [Int.toNat_natCast, Nat.mul_one, Nat.add_zero] at h1 f1
  exact ⟨h1, f1⟩
end
/-- the first that has not come -/
structure NextIs (n nx : Nat) (bs : List Bool) : Prop where
  le : nx ≤ n
  lo : ∀ j, j < nx → bs.getD j false = true
  hi : nx < n → bs.getD nx false = false
set_option maxRecDepth 100000 in
theorem rf_next {W : World} {B h : Nat} {vD vC : Value} {n nx : Nat} {ww : Int} {hs : List Hd} {bs : List Bool} (hf : IsRf W B h vD vC n ww hs bs) (hx : NextIs n nx bs) (hn : n ≤ 1048577) : Calls Try.prog 16 #[.pointer (some ⟨h, 0, none⟩)] W fun e W' => e = .returned (.int .i64 nx) ∧ W' = W := by
  have HF := Aside0.mk hf
  have HX := Aside0.mk hx
  obtain ⟨AC, cC, rfl⟩ := Kd.R_slice hf.come
  rw [hf.lb] at hf HF
  have hg1 := blk_cell hf.blk 1
  clear hf hx
  go_enter Try.func16, Try.ntmps16
  go_wp2
  go_loopw [3, 9] (fun v3 v9 wr => ∃ (t : Nat) (u3 : Value), u3 = v3 ∧ v9 = .int .i64 t ∧ t ≤ nx ∧ wr = W) (fun _ v9 _ => n - (intOf v9).toNat)
  case atStart => exact ⟨0, _, rfl, rfl, Nat.zero_le _, rfl⟩
  case round =>
    obtain ⟨t, u3, rfl, rfl, ht, rfl⟩ := hrel
    have hle := HX.out.le
    by_cases htn : t < n
    · obtain ⟨g, cg, e, _⟩ := rowA_form HF.out.lb (by omega) HF.out.come
      injection e with e _ e2
      subst e e2
      obtain ⟨hk, _⟩ := HF.out.flag t htn
      have ht0 : (0 : Int) ≤ (t : Int) := by omega
      have htn' : (t : Int) < (n : Int) := by omega
      by_cases htx : t < nx
      · rw [HX.out.lo t htx] at hk
        go_wp2
        go_roundw
        case rel => refine ⟨t + 1, _, rfl, by go_num, by omega, ?_⟩; trivial
        case measure => simp [intOf]; omega
      · obtain rfl : t = nx := by omega
        rw [HX.out.hi htn] at hk
        go_wp2
        go_ret
        exact ⟨rfl, rfl⟩
    · obtain rfl : t = n := by omega
      obtain rfl : t = nx := by omega
      go_wp2
      go_ret
      exact ⟨rfl, rfl⟩
end Go.Proofs.Ythkiedkifhloeaa.Lib
