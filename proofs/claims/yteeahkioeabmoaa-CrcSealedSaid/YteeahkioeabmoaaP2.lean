/- Bits of bytes, one by one, and what a burst of at most 32 does to the register. -/
import Derived.Test.YteeahkioeabmoaaP1
namespace Go.Proofs.Yteeahkioeabmoaa.Lib
open Go.RowKit Go.Proofs.YteeahkioeabmoaaW.PrintWords Go.Proofs.YteeahkioeabmoaaW.PrintLast Go.Proofs.YteeahkioeabmoaaW.PrintMore

/-! bits, one by one -/
def Bits01 (l : List Int) : Prop := ∀ x ∈ l, x = 0 ∨ x = 1
theorem Bits01.cons {c : Int} {l : List Int} (h : Bits01 (c :: l)) : (c = 0 ∨ c = 1) ∧ Bits01 l := ⟨h c (by simp), fun x hx => h x (by simp [hx])⟩
theorem Bits01.app {a b : List Int} (ha : Bits01 a) (hb : Bits01 b) : Bits01 (a ++ b) := fun x hx => (List.mem_append.1 hx).elim (ha x) (hb x)
/-- the number of bits, the first the lowest -/
def numB : List Int → Int
  | [] => 0
  | c :: l => c + 2 * numB l
theorem numB_range (l : List Int) (h : Bits01 l) : 0 ≤ numB l ∧ numB l < 2 ^ l.length := by
  induction l with
  | nil => simp [numB]
  | cons c l ih =>
    obtain ⟨hc, hl⟩ := h.cons
    have := ih hl
    simp only [numB, List.length_cons, Int.pow_succ]
    omega
theorem numB_zero (l : List Int) (h : Bits01 l) (hz : numB l = 0) : ∀ x ∈ l, x = 0 := by
  induction l with
  | nil => simp
  | cons c l ih =>
    obtain ⟨hc, hl⟩ := h.cons
    have hr := numB_range l hl
    simp only [numB] at hz
    intro x hx
    rcases List.mem_cons.1 hx with rfl | hx
    · omega
    · exact ih hl (by omega) x hx
/-- bits go into the register one by one -/
def bitrun : W32 → List Int → W32
  | x, [] => x
  | x, c :: l => bitrun (step (x ^^^ reg c)) l
theorem step_shl (r : Int) (h0 : 0 ≤ r) (h1 : r < 2147483648) : step (reg (2 * r)) = reg r := by
  have hl : (reg (2 * r)).getLsbD 0 = false := by
    unfold reg
    have : (BitVec.ofInt 32 (2 * r)).getLsbD 0 = decide ((BitVec.ofInt 32 (2 * r)).toNat % 2 = 1) := by simp [BitVec.getLsbD, Nat.testBit_zero]
    rw [this, BitVec.toNat_ofInt]
    simp; omega
  unfold step
  rw [hl]
  simp only [Bool.false_eq_true, if_false, BitVec.xor_zero]
  apply num_inj
  rw [← half_num, num_reg (by omega) (by omega), num_reg (by omega) (by omega)]
  omega
theorem reg_cons {c r : Int} (hc : c = 0 ∨ c = 1) (h0 : 0 ≤ r) (h1 : r < 2147483648) : reg (c + 2 * r) = reg c ^^^ reg (2 * r) := by
  rcases hc with rfl | rfl
  · have : reg 0 = 0#32 := by decide
    rw [this, BitVec.zero_xor, Int.zero_add]
  · apply num_inj
    have e : num (reg 1 ^^^ reg (2 * r)) = 1 + 2 * r := by
      unfold num
      have h2 : (reg 1).toNat = 1 := by decide
      have h3 : (reg (2 * r)).toNat = (2 * r).toNat := by unfold reg; rw [BitVec.toNat_ofInt]; omega
      rw [BitVec.toNat_xor, h2, h3]
      obtain ⟨m, hm⟩ : ∃ m, r.toNat = m := ⟨_, rfl⟩
      have h4 : (2 * r).toNat = 2 * m := by omega
      rw [h4]
      have : 1 ^^^ (2 * m) = 1 + 2 * m := by
        apply Nat.eq_of_testBit_eq
        intro i
        cases i with
        | zero => simp [Nat.testBit_zero]
        | succ i =>
          rw [Nat.testBit_xor, Nat.testBit_succ, Nat.testBit_succ, Nat.testBit_succ]
          rw [show 2 * m / 2 = m by omega, show 1 / 2 = 0 by rfl, show (1 + 2 * m) / 2 = m by omega]
          simp
      rw [this]; omega
    rw [e, num_reg (by omega) (by omega)]
theorem bitrun_num (l : List Int) (h : Bits01 l) (hl : l.length ≤ 32) : ∀ x, bitrun x l = stepN l.length (x ^^^ reg (numB l)) := by
  induction l with
  | nil =>
    intro x
    have : reg (numB []) = 0#32 := by decide
    rw [this, BitVec.xor_zero]; rfl
  | cons c l ih =>
    obtain ⟨hc, hl'⟩ := h.cons
    intro x
    have hr := numB_range l hl'
    have hb : numB l < 2147483648 := by
      have h2 : (2 : Int) ^ l.length ≤ 2 ^ 31 := by
        have := Nat.pow_le_pow_right (show 0 < 2 by omega) (show l.length ≤ 31 by simp at hl; omega)
        exact_mod_cast this
      have : (2 : Int) ^ 31 = 2147483648 := by decide
      omega
    simp only [bitrun, List.length_cons, stepN, numB]
    rw [ih hl' (by simp at hl; omega), reg_cons hc hr.1 hb, ← BitVec.xor_assoc, step_xor (x ^^^ reg c), step_shl _ hr.1 hb]
theorem bitrun_app (a b : List Int) : ∀ x, bitrun x (a ++ b) = bitrun (bitrun x a) b := by
  induction a with
  | nil => intro x; rfl
  | cons c a ih => intro x; exact ih _
theorem bitrun_zeros (l : List Int) (h : ∀ x ∈ l, x = 0) : ∀ x, bitrun x l = stepN l.length x := by
  induction l with
  | nil => intro x; rfl
  | cons c l ih =>
    intro x
    obtain rfl := h c (by simp)
    have : reg 0 = 0#32 := by decide
    simp only [bitrun, List.length_cons, stepN]
    rw [this, BitVec.xor_zero]
    exact ih (fun x hx => h x (by simp [hx])) _
/-- two rows of bits, by what they part in -/
def xorB (a b : Int) : Int := if a = b then 0 else 1
theorem reg_xorB {a b : Int} (ha : a = 0 ∨ a = 1) (hb : b = 0 ∨ b = 1) : reg (xorB a b) = reg a ^^^ reg b := by
  rcases ha with rfl | rfl <;> rcases hb with rfl | rfl <;> decide
theorem bitrun_diff : ∀ (a b : List Int), a.length = b.length → Bits01 a → Bits01 b → ∀ x y, bitrun x a ^^^ bitrun y b = bitrun (x ^^^ y) (List.zipWith xorB a b)
  | [], [], _, _, _, x, y => rfl
  | [], _ :: _, h, _, _, _, _ => by simp at h
  | _ :: _, [], h, _, _, _, _ => by simp at h
  | c :: a, d :: b, h, ha, hb, x, y => by
    obtain ⟨hc, ha'⟩ := ha.cons
    obtain ⟨hd, hb'⟩ := hb.cons
    simp only [bitrun, List.zipWith_cons_cons]
    rw [bitrun_diff a b (by simpa using h) ha' hb', ← step_xor, reg_xorB hc hd]
    congr 2
    apply BitVec.eq_of_getLsbD_eq
    intro i hi
    simp only [BitVec.getLsbD_xor]
    cases x.getLsbD i <;> cases y.getLsbD i <;> cases (reg c).getLsbD i <;> cases (reg d).getLsbD i <;> rfl
/-- A BURST: bits that part within 32 side by side alone leave another register. -/
theorem burst (a b z1 e1 z2 : List Int) (x : W32) (hab : a.length = b.length) (ha : Bits01 a) (hb : Bits01 b)
    (hd : List.zipWith xorB a b = z1 ++ e1 ++ z2) (h1 : ∀ v ∈ z1, v = 0) (h2 : ∀ v ∈ z2, v = 0) (he : e1.length ≤ 32) (h : bitrun x a = bitrun x b) : a = b := by
  have hz : bitrun (x ^^^ x) (List.zipWith xorB a b) = 0#32 := by rw [← bitrun_diff a b hab ha hb, h, BitVec.xor_self]
  have h01 : Bits01 (List.zipWith xorB a b) := by
    intro v hv
    obtain ⟨i, hi, rfl⟩ := List.mem_iff_getElem.1 hv
    rw [List.getElem_zipWith]; unfold xorB; split <;> simp
  rw [hd] at hz h01
  have he1 : Bits01 e1 := fun v hv => h01 v (by simp [hv])
  rw [BitVec.xor_self, bitrun_app, bitrun_app, bitrun_zeros z1 h1, stepN_zero, bitrun_zeros z2 h2, bitrun_num e1 he1 he, BitVec.zero_xor] at hz
  have hn := stepN_inj _ (stepN_inj _ hz)
  have hr := numB_range e1 he1
  have h32 : (2 : Int) ^ e1.length ≤ 2 ^ 32 := by
    have := Nat.pow_le_pow_right (show 0 < 2 by omega) he
    exact_mod_cast this
  have h33 : (2 : Int) ^ 32 = 4294967296 := by decide
  have hz0 : numB e1 = 0 := by
    have := congrArg num hn
    rw [num_reg hr.1 (by omega)] at this
    exact this
  have hall : ∀ v ∈ List.zipWith xorB a b, v = 0 := by
    rw [hd]
    intro v hv
    rcases List.mem_append.1 hv with hv | hv
    · rcases List.mem_append.1 hv with hv | hv
      · exact h1 v hv
      · exact numB_zero e1 he1 hz0 v hv
    · exact h2 v hv
  apply List.ext_getElem hab
  intro i hi hi'
  have := hall (xorB a[i] b[i]) (by rw [List.mem_iff_getElem]; exact ⟨i, by simp; omega, by rw [List.getElem_zipWith]⟩)
  unfold xorB at this
  split at this
  · assumption
  · omega

/-! bits of bytes, bytes of bits -/
def byteBits : Nat → Int → List Int
  | 0, _ => []
  | d + 1, n => (n % 2) :: byteBits d (n / 2)
def bitsOf : List Int → List Int
  | [] => []
  | c :: l => byteBits 8 c ++ bitsOf l
theorem byteBits_length (d : Nat) : ∀ n, (byteBits d n).length = d := by
  induction d with
  | zero => intro n; rfl
  | succ d ih => intro n; simp [byteBits, ih]
theorem byteBits_01 (d : Nat) : ∀ n, Bits01 (byteBits d n) := by
  induction d with
  | zero => intro n x hx; simp [byteBits] at hx
  | succ d ih =>
    intro n x hx
    rcases List.mem_cons.1 hx with rfl | hx
    · omega
    · exact ih _ x hx
theorem byteBits_num (d : Nat) : ∀ n, 0 ≤ n → n < 2 ^ d → numB (byteBits d n) = n := by
  induction d with
  | zero => intro n h0 h1; simp at h1; simp [byteBits, numB]; omega
  | succ d ih =>
    intro n h0 h1
    rw [Int.pow_succ] at h1
    simp only [byteBits, numB]
    rw [ih (n / 2) (by omega) (by omega)]; omega
theorem bitsOf_length (l : List Int) : (bitsOf l).length = 8 * l.length := by
  induction l with
  | nil => rfl
  | cons c l ih => simp only [bitsOf, List.length_append, List.length_cons, byteBits_length, ih]; omega
theorem bitsOf_01 (l : List Int) : Bits01 (bitsOf l) := by
  induction l with
  | nil => intro x hx; simp [bitsOf] at hx
  | cons c l ih => exact (byteBits_01 8 c).app ih
theorem bitsOf_app (a b : List Int) : bitsOf (a ++ b) = bitsOf a ++ bitsOf b := by
  induction a with
  | nil => rfl
  | cons c a ih => simp only [List.cons_append, bitsOf]; rw [ih, List.append_assoc]
theorem bitsOf_inj : ∀ {a b : List Int}, Bytes a → Bytes b → bitsOf a = bitsOf b → a = b
  | [], [], _, _, _ => rfl
  | [], d :: b, _, _, h => by have := congrArg List.length h; rw [bitsOf_length, bitsOf_length] at this; simp at this
  | d :: b, [], _, _, h => by have := congrArg List.length h; rw [bitsOf_length, bitsOf_length] at this; simp at this
  | c :: a, d :: b, ha, hb, h => by
    obtain ⟨hc, ha⟩ := ha.cons
    obtain ⟨hd, hb⟩ := hb.cons
    simp only [bitsOf] at h
    obtain ⟨h1, h2⟩ := List.append_inj h (by rw [byteBits_length, byteBits_length])
    have e1 := byteBits_num 8 c (by omega) (by omega)
    have e2 := byteBits_num 8 d (by omega) (by omega)
    rw [h1] at e1
    rw [bitsOf_inj ha hb h2, e1.symm.trans e2]
theorem run_bits (l : List Int) (hl : Bytes l) : ∀ x, run x l = bitrun x (bitsOf l) := by
  induction l with
  | nil => intro x; rfl
  | cons c l ih =>
    intro x
    obtain ⟨hc, hl⟩ := hl.cons
    simp only [run, bitsOf]
    rw [bitrun_app, ih hl, bitrun_num _ (byteBits_01 8 c) (by rw [byteBits_length]; omega), byteBits_length, byteBits_num 8 c (by omega) (by omega)]
end Go.Proofs.Yteeahkioeabmoaa.Lib
