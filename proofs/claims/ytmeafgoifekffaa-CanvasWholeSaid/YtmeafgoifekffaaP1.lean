/- the bits that near strikes, and which places it tells, in plain Lean. -/
import Derived.Test.YtmeafgoifekffaaV6
namespace Go.Proofs.Ytmeafgoifekffaa.Lib
open Go.RowKit Go.Proofs.YtmeafgoifekffaaW.PrintWords Go.Proofs.YtmeafgoifekffaaW.PrintLast Go.Proofs.YtmeafgoifekffaaW.PrintMore
set_option linter.unusedVariables false
set_option linter.unusedSimpArgs false
/-- the lowest j bits struck -/
def lowN (x j : Nat) : Nat := x / 2 ^ j * 2 ^ j
theorem and_low (x j : Nat) (hj : j ≤ 20) (hx : x < 2 ^ 63) : x &&& (2 ^ 64 - 1 - (2 ^ j - 1)) = lowN x j := by
  apply Nat.eq_of_testBit_eq
  intro i
  have hp : 2 ^ j ≤ 2 ^ 20 := Nat.pow_le_pow_right (by omega) hj
  have hp0 : 0 < 2 ^ j := Nat.pow_pos (by omega)
  have e1 : 2 ^ 64 - 1 - (2 ^ j - 1) = 2 ^ 64 - ((2 ^ j - 1) + 1) := by omega
  rw [Nat.testBit_and, e1, Nat.testBit_two_pow_sub_succ (by omega), Nat.testBit_two_pow_sub_one]
  unfold lowN
  rw [← Nat.shiftRight_eq_div_pow, ← Nat.shiftLeft_eq, Nat.testBit_shiftLeft, Nat.testBit_shiftRight]
  by_cases h : i < j
  · simp [h, Nat.not_le.2 h]
  · have h2 : j ≤ i := by omega
    rw [show j + (i - j) = i by omega]
    by_cases h3 : i < 64
    · simp [h, h2, h3]
    · have : x.testBit i = false := Nat.testBit_lt_two_pow (Nat.lt_of_lt_of_le hx (Nat.pow_le_pow_right (by omega) (by omega)))
      simp [this]
theorem lowN_le (x j : Nat) : lowN x j ≤ x := Nat.div_mul_le_self x _
theorem andNot_low (x j m : Nat) (hj : j ≤ 20) (hx : x < 2 ^ 63) (hm : m = 2 ^ j - 1) : Op.intBits .andNot .i64 (x : Int) (m : Int) = pure (.int .i64 (lowN x j : Nat)) := by
  have hp : 2 ^ j ≤ 2 ^ 20 := Nat.pow_le_pow_right (by omega) hj
  have hlow := lowN_le x j
  have e : (BitVec.ofInt 64 (x : Int) &&& ~~~ BitVec.ofInt 64 (m : Int)).toNat = lowN x j := by
    rw [BitVec.toNat_and, BitVec.toNat_not, BitVec.ofInt_natCast, BitVec.ofInt_natCast, BitVec.toNat_ofNat, BitVec.toNat_ofNat, Nat.mod_eq_of_lt (by omega), Nat.mod_eq_of_lt (by omega), hm]
    exact and_low x j hj hx
  unfold Op.intBits
  show pure (Value.int .i64 (IntKind.i64.wrap (BitVec.ofInt 64 (x : Int) &&& ~~~ BitVec.ofInt 64 (m : Int)).toNat)) = _
  rw [e, wrapI (by omega) (by omega)]
theorem andNot_bits (x j m : Nat) (hj : j ≤ 20) (hx : x < 2 ^ 63) (hm : m = 2 ^ j - 1) : bits .andNot .i64 (x : Int) (m : Int) = (lowN x j : Nat) := by
  have hp : 2 ^ j ≤ 2 ^ 20 := Nat.pow_le_pow_right (by omega) hj
  have hlow := lowN_le x j
  have e : (BitVec.ofInt 64 (x : Int) &&& ~~~ BitVec.ofInt 64 (m : Int)).toNat = lowN x j := by
    rw [BitVec.toNat_and, BitVec.toNat_not, BitVec.ofInt_natCast, BitVec.ofInt_natCast, BitVec.toNat_ofNat, BitVec.toNat_ofNat, Nat.mod_eq_of_lt (by omega), Nat.mod_eq_of_lt (by omega), hm]
    exact and_low x j hj hx
  show IntKind.i64.wrap (BitVec.ofInt 64 (x : Int) &&& ~~~ BitVec.ofInt 64 (m : Int)).toNat = _
  rw [e, wrapI (by omega) (by omega)]
/-- the places at which a pixel is looked for, the nearest first -/
def nearL (a b : Nat) : Bool → List (Nat × Nat)
  | true => [(a, b), (a, lowN b 1), (a, lowN b 2), (a, lowN b 3)]
  | false => [(a, b), (lowN a 1, lowN b 0), (lowN a 1, lowN b 1), (lowN a 2, lowN b 1), (lowN a 2, lowN b 2), (lowN a 3, lowN b 2), (lowN a 3, lowN b 3)]
end Go.Proofs.Ytmeafgoifekffaa.Lib
