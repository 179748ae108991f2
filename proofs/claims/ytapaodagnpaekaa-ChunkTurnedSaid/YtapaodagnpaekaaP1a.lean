/- The letters of a name, plain. -/
import Derived.Test.YtapaodagnpaekaaV4
import Derived.Test.YtapaodagnpaekaaF3
namespace Go.Proofs.Ytapaodagnpaekaa.Lib
open Go.RowKit Go.Proofs.YtapaodagnpaekaaW.PrintWords Go.Proofs.YtapaodagnpaekaaW.PrintLast Go.Proofs.YtapaodagnpaekaaW.PrintMore
set_option linter.unusedVariables false
set_option linter.unusedSimpArgs false
theorem let_or : ∀ c : Nat, c < 256 → letB (c : Int) = (decide (65 ≤ c ∧ c ≤ 90) || decide (97 ≤ c ∧ c ≤ 122)) := by decide +kernel
theorem bytesOf_at (s : ByteArray) (i : Nat) (h : i < (bytesOf s).length) : bt s (i : Int) = (bytesOf s)[i] := by
  have h2 : i < s.size := by rw [bytesOf_length] at h; exact h
  have h4 : i < (s.data.toList.map fun b => (b.toNat : Int)).length := h
  have h5 : (bytesOf s)[i] = (s.data.toList.map fun b => (b.toNat : Int))[i]'h4 := rfl
  refine Eq.trans ?_ h5.symm
  rw [List.getElem_map]
  unfold bt
  rw [dif_pos (show ((i : Int)).toNat < s.size from h2)]
  rfl
theorem kind_l0 (s : ByteArray) (hs : s.size ≤ 140737488351232) : ∀ (d i k : Nat), i + d = s.size → d < k → halftoneref11_Kind.l0 k s (i : Int) = some (((bytesOf s).drop i).all letB && (s.size == 4))
  | 0, i, k + 1, h, _ => by
    rw [halftoneref11_Kind.l0, if_neg (by omega), List.drop_eq_nil_of_le (by rw [bytesOf_length]; omega)]
    congr 1
    rw [Bool.eq_iff_iff]
    simp
    omega
  | d + 1, i, k + 1, h, hk => by
    have hi : i < (bytesOf s).length := by rw [bytesOf_length]; omega
    have hb := bytesOf_at s i hi
    have hr := bytes_bytes s _ (List.getElem_mem hi)
    rw [halftoneref11_Kind.l0, if_pos (by omega), if_pos (by omega), hb, List.drop_eq_getElem_cons hi, List.all_cons, wrap_nat (by omega), kind_l0 s hs d (i + 1) k (by omega) (by omega)]
    generalize (bytesOf s)[i] = x at hr ⊢
    have hx := let_or x.toNat (by omega)
    rw [Int.toNat_of_nonneg hr.1] at hx
    rw [hx]
    by_cases h1 : x ≥ 65
    · rw [if_pos h1]
      by_cases h2 : x ≤ 90
      · rw [if_pos h2, show (decide (65 ≤ x.toNat ∧ x.toNat ≤ 90) : Bool) = true from decide_eq_true (by omega)]
        simp
      · rw [if_neg h2, show (decide (65 ≤ x.toNat ∧ x.toNat ≤ 90) : Bool) = false from decide_eq_false (by omega)]
        by_cases h3 : x ≥ 97
        · rw [if_pos h3]
          by_cases h4 : x ≤ 122
          · rw [if_pos h4, show (decide (97 ≤ x.toNat ∧ x.toNat ≤ 122) : Bool) = true from decide_eq_true (by omega)]
            simp
          · rw [if_neg h4, show (decide (97 ≤ x.toNat ∧ x.toNat ≤ 122) : Bool) = false from decide_eq_false (by omega)]
            simp
        · rw [if_neg h3, show (decide (97 ≤ x.toNat ∧ x.toNat ≤ 122) : Bool) = false from decide_eq_false (by omega)]
          simp
    · rw [if_neg h1, if_neg (by omega), show (decide (65 ≤ x.toNat ∧ x.toNat ≤ 90) : Bool) = false from decide_eq_false (by omega), show (decide (97 ≤ x.toNat ∧ x.toNat ≤ 122) : Bool) = false from decide_eq_false (by omega)]
      simp
theorem kind_f (s : ByteArray) (hs : s.size ≤ 140737488351232) (k : Nat) (hk : s.size < k) : halftoneref11_Kind.f k s = some (kindB s) := by
  have h := kind_l0 s hs s.size 0 k (by omega) hk
  rw [List.drop_zero] at h
  show halftoneref11_Kind.l0 k s ((0 : Nat) : Int) = _
  rw [h]
  unfold kindB
  rw [Bool.and_comm]
end Go.Proofs.Ytapaodagnpaekaa.Lib
