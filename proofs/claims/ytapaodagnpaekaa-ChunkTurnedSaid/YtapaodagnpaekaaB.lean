/- A burst of at most 32 bits shows in the sum: registers, bits, and what the reference comes to. -/
import Derived.Test.YtapaodagnpaekaaP0
import Derived.Test.YtapaodagnpaekaaF5
namespace Go.Proofs.Ytapaodagnpaekaa.Lib
open Go.RowKit Go.Proofs.YtapaodagnpaekaaW.PrintWords Go.Proofs.YtapaodagnpaekaaW.PrintLast Go.Proofs.YtapaodagnpaekaaW.PrintMore

/-! the step is linear, and nothing but nought comes to nought -/
theorem step_xor (x y : W32) : step (x ^^^ y) = step x ^^^ step y := by
  apply BitVec.eq_of_getLsbD_eq
  intro i hi
  unfold step
  rw [BitVec.ushiftRight_xor_distrib]
  simp only [BitVec.getLsbD_xor]
  have hc : ∀ c : Bool, (if c = true then poly else 0#32).getLsbD i = (c && poly.getLsbD i) := fun c => by cases c <;> simp
  simp only [hc]
  generalize (x >>> 1).getLsbD i = p
  generalize (y >>> 1).getLsbD i = q
  generalize poly.getLsbD i = r
  cases x.getLsbD 0 <;> cases y.getLsbD 0 <;> cases p <;> cases q <;> cases r <;> rfl
theorem step_zero : step 0#32 = 0#32 := by decide
theorem step_inj {x : W32} (h : step x = 0#32) : x = 0#32 := by
  unfold step at h
  cases hx : x.getLsbD 0
  · rw [hx] at h
    apply BitVec.eq_of_getLsbD_eq
    intro i hi
    cases i with
    | zero => rw [hx]; simp
    | succ i =>
      have := congrArg (fun z : W32 => z.getLsbD i) h
      simpa [Nat.add_comm] using this
  · rw [hx] at h
    have := congrArg (fun z : W32 => z.getLsbD 31) h
    revert this
    simp only [if_true, BitVec.getLsbD_xor, BitVec.getLsbD_ushiftRight]
    rw [BitVec.getLsbD_of_ge x (1 + 31) (by omega)]
    intro h9
    exact absurd h9 (by decide)
theorem stepN_xor (n : Nat) : ∀ x y, stepN n (x ^^^ y) = stepN n x ^^^ stepN n y := by
  induction n with
  | zero => intro x y; rfl
  | succ n ih => intro x y; simp only [stepN]; rw [step_xor, ih]
theorem stepN_zero (n : Nat) : stepN n 0#32 = 0#32 := by
  induction n with
  | zero => rfl
  | succ n ih => simp only [stepN]; rw [step_zero, ih]
theorem stepN_inj (n : Nat) : ∀ {x}, stepN n x = 0#32 → x = 0#32 := by
  induction n with
  | zero => intro x h; exact h
  | succ n ih => intro x h; exact step_inj (ih h)
theorem stepN_add (m n : Nat) : ∀ x, stepN (m + n) x = stepN n (stepN m x) := by
  induction m with
  | zero => intro x; simp [stepN]
  | succ m ih => intro x; rw [Nat.succ_add]; exact ih _
theorem stepN_step (n : Nat) : ∀ x, stepN n (step x) = step (stepN n x) := by
  induction n with
  | zero => intro x; rfl
  | succ n ih => intro x; exact ih _
theorem stepN_eq {n : Nat} {x y : W32} (h : stepN n x = stepN n y) : x = y := by
  have h1 : stepN n (x ^^^ y) = 0#32 := by rw [stepN_xor, h, BitVec.xor_self]
  have h2 := stepN_inj n h1
  have : x ^^^ y ^^^ y = 0#32 ^^^ y := by rw [h2]
  rwa [BitVec.xor_assoc, BitVec.xor_self, BitVec.xor_zero, BitVec.zero_xor] at this
theorem run_two (l : List Int) : ∀ x y, run x l = run y l ^^^ stepN (8 * l.length) (x ^^^ y) := by
  induction l with
  | nil =>
    intro x y
    show x = y ^^^ (x ^^^ y)
    rw [BitVec.xor_comm x y, ← BitVec.xor_assoc, BitVec.xor_self, BitVec.zero_xor]
  | cons c l ih =>
    intro x y
    show run _ l = run _ l ^^^ _
    rw [ih (stepN 8 (x ^^^ reg c)) (stepN 8 (y ^^^ reg c)), ← stepN_xor]
    congr 1
    rw [List.length_cons, Nat.mul_add, Nat.add_comm, stepN_add]
    congr 2
    apply BitVec.eq_of_getLsbD_eq
    intro i hi
    simp only [BitVec.getLsbD_xor]
    cases x.getLsbD i <;> cases y.getLsbD i <;> cases (reg c).getLsbD i <;> rfl

/-! the product of two: a's bits say which steps of b are summed up -/
def mul : Nat → W32 → W32 → W32
  | 0, _, _ => 0#32
  | i + 1, a, b => (if a.getLsbD i then b else 0#32) ^^^ mul i a (step b)
theorem mul_xor (n : Nat) (a : W32) : ∀ b c, mul n a (b ^^^ c) = mul n a b ^^^ mul n a c := by
  induction n with
  | zero => intro b c; simp [mul]
  | succ n ih =>
    intro b c
    simp only [mul]
    rw [step_xor, ih]
    apply BitVec.eq_of_getLsbD_eq
    intro i hi
    cases a.getLsbD n
    · simp
    · simp only [if_true, BitVec.getLsbD_xor]
      cases b.getLsbD i <;> cases c.getLsbD i <;> cases (mul n a (step b)).getLsbD i <;> cases (mul n a (step c)).getLsbD i <;> rfl
theorem mul_of_op {T : W32 → W32} (hz : T 0#32 = 0#32) (hx : ∀ b c, T (b ^^^ c) = T b ^^^ T c) (hs : ∀ b, T (step b) = step (T b)) (n : Nat) (a : W32) : ∀ b, mul n a (T b) = T (mul n a b) := by
  induction n with
  | zero => intro b; exact hz.symm
  | succ n ih =>
    intro b
    simp only [mul]
    rw [hx, ← hs, ih]
    congr 1
    split
    · rfl
    · exact hz.symm
theorem mul_zero (n : Nat) (a : W32) : mul n a 0#32 = 0#32 := by
  induction n with
  | zero => rfl
  | succ n ih => simp only [mul]; rw [step_zero, ih]; split <;> rfl
theorem mul_step (n : Nat) (a b : W32) : mul n a (step b) = step (mul n a b) := mul_of_op step_zero step_xor (fun _ => rfl) n a b
theorem step_two (i : Nat) (h : i < 31) : step (BitVec.twoPow 32 (i + 1)) = BitVec.twoPow 32 i := by
  have : ∀ j : Fin 31, step (BitVec.twoPow 32 (j.val + 1)) = BitVec.twoPow 32 j.val := by decide +kernel
  exact this ⟨i, h⟩
theorem mul_one (n : Nat) (a : W32) (h : n ≤ 31) : ∀ j, j < 32 → (mul (n + 1) a (BitVec.twoPow 32 n)).getLsbD j = (decide (j ≤ n) && a.getLsbD j) := by
  induction n with
  | zero =>
    intro j hj
    simp only [mul]
    cases hb : a.getLsbD 0 <;> cases j <;> simp_all
  | succ n ih =>
    intro j hj
    rw [mul, step_two n (by omega), BitVec.getLsbD_xor, ih (by omega) j hj]
    rcases Nat.lt_trichotomy j (n + 1) with h1 | h1 | h1
    · have : (if a.getLsbD (n + 1) then BitVec.twoPow 32 (n + 1) else 0#32).getLsbD j = false := by
        split
        · rw [BitVec.getLsbD_twoPow]; simp; omega
        · simp
      rw [this]; simp; rw [decide_eq_true (by omega), decide_eq_true (by omega)]
    · subst h1
      have : (if a.getLsbD (n + 1) then BitVec.twoPow 32 (n + 1) else 0#32).getLsbD (n + 1) = a.getLsbD (n + 1) := by
        split
        · rename_i hq; rw [BitVec.getLsbD_twoPow, hq]; simp [hj]
        · rename_i hq; rw [Bool.not_eq_true] at hq; rw [hq]; simp
      rw [this, decide_eq_false (show ¬ n + 1 ≤ n by omega), decide_eq_true (show n + 1 ≤ n + 1 by omega)]; simp
    · have : (if a.getLsbD (n + 1) then BitVec.twoPow 32 (n + 1) else 0#32).getLsbD j = false := by
        split
        · rw [BitVec.getLsbD_twoPow]; simp; omega
        · simp
      rw [this, decide_eq_false (by omega), decide_eq_false (by omega)]; simp
def one : W32 := BitVec.twoPow 32 31
theorem mul_unit (a : W32) : mul 32 a one = a := by
  apply BitVec.eq_of_getLsbD_eq
  intro i hi
  have := mul_one 31 a (by omega) i hi
  unfold one
  rw [this, decide_eq_true (by omega)]
  simp
/-- whatever is linear and goes with the step is a product with what it makes of one -/
theorem op_mul {T : W32 → W32} (hz : T 0#32 = 0#32) (hx : ∀ b c, T (b ^^^ c) = T b ^^^ T c) (hs : ∀ b, T (step b) = step (T b)) (b : W32) : T b = mul 32 b (T one) := by
  rw [mul_of_op hz hx hs, mul_unit]
theorem mul_comm_ (a b : W32) : mul 32 a b = mul 32 b a := by
  have h := op_mul (T := mul 32 a) (mul_zero 32 a) (mul_xor 32 a) (mul_step 32 a) b
  rw [mul_unit] at h
  exact h
/-- a step of so many bits, as a product -/
theorem steps_mul (m : Nat) (b : W32) : stepN m b = mul 32 (stepN m one) b := by
  rw [op_mul (T := stepN m) (stepN_zero m) (stepN_xor m) (stepN_step m), mul_comm_]
theorem square (m : Nat) {s : W32} (h : s = stepN m one) : mul 32 s s = stepN (m + m) one := by
  rw [stepN_add]; subst h; rw [← steps_mul]


/-! bits, one by one -/
def Bits01 (l : List Int) : Prop := ∀ x ∈ l, x = 0 ∨ x = 1
theorem Bits01.cons {c : Int} {l : List Int} (h : Bits01 (c :: l)) : (c = 0 ∨ c = 1) ∧ Bits01 l := ⟨h c (by simp), fun x hx => h x (by simp [hx])⟩
theorem Bits01.app {a b : List Int} (ha : Bits01 a) (hb : Bits01 b) : Bits01 (a ++ b) := fun x hx => (List.mem_append.1 hx).elim (ha x) (hb x)
/-- the number of bits, the first the lowest -/
def numB : List Int → Int
  | [] => 0
  | c :: l => c + 2 * numB l
theorem numB_range (l : List Int) (h : Bits01 l) : 0 ≤ numB l ∧ numB l < 2 ^ l.length := by
  induction l with
  | nil => simp [numB]
  | cons c l ih =>
    obtain ⟨hc, hl⟩ := h.cons
    have := ih hl
    simp only [numB, List.length_cons, Int.pow_succ]
    omega
theorem numB_zero (l : List Int) (h : Bits01 l) (hz : numB l = 0) : ∀ x ∈ l, x = 0 := by
  induction l with
  | nil => simp
  | cons c l ih =>
    obtain ⟨hc, hl⟩ := h.cons
    have hr := numB_range l hl
    simp only [numB] at hz
    intro x hx
    rcases List.mem_cons.1 hx with rfl | hx
    · omega
    · exact ih hl (by omega) x hx
/-- bits go into the register one by one -/
def bitrun : W32 → List Int → W32
  | x, [] => x
  | x, c :: l => bitrun (step (x ^^^ reg c)) l
theorem step_shl (r : Int) (h0 : 0 ≤ r) (h1 : r < 2147483648) : step (reg (2 * r)) = reg r := by
  have hl : (reg (2 * r)).getLsbD 0 = false := by
    unfold reg
    have : (BitVec.ofInt 32 (2 * r)).getLsbD 0 = decide ((BitVec.ofInt 32 (2 * r)).toNat % 2 = 1) := by simp [BitVec.getLsbD, Nat.testBit_zero]
    rw [this, BitVec.toNat_ofInt]
    simp; omega
  unfold step
  rw [hl]
  simp only [Bool.false_eq_true, if_false, BitVec.xor_zero]
  apply num_inj
  rw [← half_num, num_reg (by omega) (by omega), num_reg (by omega) (by omega)]
  omega
theorem reg_cons {c r : Int} (hc : c = 0 ∨ c = 1) (h0 : 0 ≤ r) (h1 : r < 2147483648) : reg (c + 2 * r) = reg c ^^^ reg (2 * r) := by
  rcases hc with rfl | rfl
  · have : reg 0 = 0#32 := by decide
    rw [this, BitVec.zero_xor, Int.zero_add]
  · apply num_inj
    have e : num (reg 1 ^^^ reg (2 * r)) = 1 + 2 * r := by
      unfold num
      have h2 : (reg 1).toNat = 1 := by decide
      have h3 : (reg (2 * r)).toNat = (2 * r).toNat := by unfold reg; rw [BitVec.toNat_ofInt]; omega
      rw [BitVec.toNat_xor, h2, h3]
      obtain ⟨m, hm⟩ : ∃ m, r.toNat = m := ⟨_, rfl⟩
      have h4 : (2 * r).toNat = 2 * m := by omega
      rw [h4]
      have : 1 ^^^ (2 * m) = 1 + 2 * m := by
        apply Nat.eq_of_testBit_eq
        intro i
        cases i with
        | zero => simp [Nat.testBit_zero]
        | succ i =>
          rw [Nat.testBit_xor, Nat.testBit_succ, Nat.testBit_succ, Nat.testBit_succ]
          rw [show 2 * m / 2 = m by omega, show 1 / 2 = 0 by rfl, show (1 + 2 * m) / 2 = m by omega]
          simp
      rw [this]; omega
    rw [e, num_reg (by omega) (by omega)]
theorem bitrun_num (l : List Int) (h : Bits01 l) (hl : l.length ≤ 32) : ∀ x, bitrun x l = stepN l.length (x ^^^ reg (numB l)) := by
  induction l with
  | nil =>
    intro x
    have : reg (numB []) = 0#32 := by decide
    rw [this, BitVec.xor_zero]; rfl
  | cons c l ih =>
    obtain ⟨hc, hl'⟩ := h.cons
    intro x
    have hr := numB_range l hl'
    have hb : numB l < 2147483648 := by
      have h2 : (2 : Int) ^ l.length ≤ 2 ^ 31 := by
        have := Nat.pow_le_pow_right (show 0 < 2 by omega) (show l.length ≤ 31 by simp at hl; omega)
        exact_mod_cast this
      have : (2 : Int) ^ 31 = 2147483648 := by decide
      omega
    simp only [bitrun, List.length_cons, stepN, numB]
    rw [ih hl' (by simp at hl; omega), reg_cons hc hr.1 hb, ← BitVec.xor_assoc, step_xor (x ^^^ reg c), step_shl _ hr.1 hb]
theorem bitrun_app (a b : List Int) : ∀ x, bitrun x (a ++ b) = bitrun (bitrun x a) b := by
  induction a with
  | nil => intro x; rfl
  | cons c a ih => intro x; exact ih _
theorem bitrun_zeros (l : List Int) (h : ∀ x ∈ l, x = 0) : ∀ x, bitrun x l = stepN l.length x := by
  induction l with
  | nil => intro x; rfl
  | cons c l ih =>
    intro x
    obtain rfl := h c (by simp)
    have : reg 0 = 0#32 := by decide
    simp only [bitrun, List.length_cons, stepN]
    rw [this, BitVec.xor_zero]
    exact ih (fun x hx => h x (by simp [hx])) _
/-- two rows of bits, by what they part in -/
def xorB (a b : Int) : Int := if a = b then 0 else 1
theorem reg_xorB {a b : Int} (ha : a = 0 ∨ a = 1) (hb : b = 0 ∨ b = 1) : reg (xorB a b) = reg a ^^^ reg b := by
  rcases ha with rfl | rfl <;> rcases hb with rfl | rfl <;> decide
theorem bitrun_diff : ∀ (a b : List Int), a.length = b.length → Bits01 a → Bits01 b → ∀ x y, bitrun x a ^^^ bitrun y b = bitrun (x ^^^ y) (List.zipWith xorB a b)
  | [], [], _, _, _, x, y => rfl
  | [], _ :: _, h, _, _, _, _ => by simp at h
  | _ :: _, [], h, _, _, _, _ => by simp at h
  | c :: a, d :: b, h, ha, hb, x, y => by
    obtain ⟨hc, ha'⟩ := ha.cons
    obtain ⟨hd, hb'⟩ := hb.cons
    simp only [bitrun, List.zipWith_cons_cons]
    rw [bitrun_diff a b (by simpa using h) ha' hb', ← step_xor, reg_xorB hc hd]
    congr 2
    apply BitVec.eq_of_getLsbD_eq
    intro i hi
    simp only [BitVec.getLsbD_xor]
    cases x.getLsbD i <;> cases y.getLsbD i <;> cases (reg c).getLsbD i <;> cases (reg d).getLsbD i <;> rfl
/-- A BURST: bits that part within 32 side by side alone leave another register. -/
theorem burst (a b z1 e1 z2 : List Int) (x : W32) (hab : a.length = b.length) (ha : Bits01 a) (hb : Bits01 b)
    (hd : List.zipWith xorB a b = z1 ++ e1 ++ z2) (h1 : ∀ v ∈ z1, v = 0) (h2 : ∀ v ∈ z2, v = 0) (he : e1.length ≤ 32) (h : bitrun x a = bitrun x b) : a = b := by
  have hz : bitrun (x ^^^ x) (List.zipWith xorB a b) = 0#32 := by rw [← bitrun_diff a b hab ha hb, h, BitVec.xor_self]
  have h01 : Bits01 (List.zipWith xorB a b) := by
    intro v hv
    obtain ⟨i, hi, rfl⟩ := List.mem_iff_getElem.1 hv
    rw [List.getElem_zipWith]; unfold xorB; split <;> simp
  rw [hd] at hz h01
  have he1 : Bits01 e1 := fun v hv => h01 v (by simp [hv])
  rw [BitVec.xor_self, bitrun_app, bitrun_app, bitrun_zeros z1 h1, stepN_zero, bitrun_zeros z2 h2, bitrun_num e1 he1 he, BitVec.zero_xor] at hz
  have hn := stepN_inj _ (stepN_inj _ hz)
  have hr := numB_range e1 he1
  have h32 : (2 : Int) ^ e1.length ≤ 2 ^ 32 := by
    have := Nat.pow_le_pow_right (show 0 < 2 by omega) he
    exact_mod_cast this
  have h33 : (2 : Int) ^ 32 = 4294967296 := by decide
  have hz0 : numB e1 = 0 := by
    have := congrArg num hn
    rw [num_reg hr.1 (by omega)] at this
    exact this
  have hall : ∀ v ∈ List.zipWith xorB a b, v = 0 := by
    rw [hd]
    intro v hv
    rcases List.mem_append.1 hv with hv | hv
    · rcases List.mem_append.1 hv with hv | hv
      · exact h1 v hv
      · exact numB_zero e1 he1 hz0 v hv
    · exact h2 v hv
  apply List.ext_getElem hab
  intro i hi hi'
  have := hall (xorB a[i] b[i]) (by rw [List.mem_iff_getElem]; exact ⟨i, by simp; omega, by rw [List.getElem_zipWith]⟩)
  unfold xorB at this
  split at this
  · assumption
  · omega

/-! bits of bytes, bytes of bits -/
def byteBits : Nat → Int → List Int
  | 0, _ => []
  | d + 1, n => (n % 2) :: byteBits d (n / 2)
def bitsOf : List Int → List Int
  | [] => []
  | c :: l => byteBits 8 c ++ bitsOf l
theorem byteBits_length (d : Nat) : ∀ n, (byteBits d n).length = d := by
  induction d with
  | zero => intro n; rfl
  | succ d ih => intro n; simp [byteBits, ih]
theorem byteBits_01 (d : Nat) : ∀ n, Bits01 (byteBits d n) := by
  induction d with
  | zero => intro n x hx; simp [byteBits] at hx
  | succ d ih =>
    intro n x hx
    rcases List.mem_cons.1 hx with rfl | hx
    · omega
    · exact ih _ x hx
theorem byteBits_num (d : Nat) : ∀ n, 0 ≤ n → n < 2 ^ d → numB (byteBits d n) = n := by
  induction d with
  | zero => intro n h0 h1; simp at h1; simp [byteBits, numB]; omega
  | succ d ih =>
    intro n h0 h1
    rw [Int.pow_succ] at h1
    simp only [byteBits, numB]
    rw [ih (n / 2) (by omega) (by omega)]; omega
theorem bitsOf_length (l : List Int) : (bitsOf l).length = 8 * l.length := by
  induction l with
  | nil => rfl
  | cons c l ih => simp only [bitsOf, List.length_append, List.length_cons, byteBits_length, ih]; omega
theorem bitsOf_01 (l : List Int) : Bits01 (bitsOf l) := by
  induction l with
  | nil => intro x hx; simp [bitsOf] at hx
  | cons c l ih => exact (byteBits_01 8 c).app ih
theorem bitsOf_app (a b : List Int) : bitsOf (a ++ b) = bitsOf a ++ bitsOf b := by
  induction a with
  | nil => rfl
  | cons c a ih => simp only [List.cons_append, bitsOf]; rw [ih, List.append_assoc]
theorem bitsOf_inj : ∀ {a b : List Int}, Bytes a → Bytes b → bitsOf a = bitsOf b → a = b
  | [], [], _, _, _ => rfl
  | [], d :: b, _, _, h => by have := congrArg List.length h; rw [bitsOf_length, bitsOf_length] at this; simp at this
  | d :: b, [], _, _, h => by have := congrArg List.length h; rw [bitsOf_length, bitsOf_length] at this; simp at this
  | c :: a, d :: b, ha, hb, h => by
    obtain ⟨hc, ha⟩ := ha.cons
    obtain ⟨hd, hb⟩ := hb.cons
    simp only [bitsOf] at h
    obtain ⟨h1, h2⟩ := List.append_inj h (by rw [byteBits_length, byteBits_length])
    have e1 := byteBits_num 8 c (by omega) (by omega)
    have e2 := byteBits_num 8 d (by omega) (by omega)
    rw [h1] at e1
    rw [bitsOf_inj ha hb h2, e1.symm.trans e2]
theorem run_bits (l : List Int) (hl : Bytes l) : ∀ x, run x l = bitrun x (bitsOf l) := by
  induction l with
  | nil => intro x; rfl
  | cons c l ih =>
    intro x
    obtain ⟨hc, hl⟩ := hl.cons
    simp only [run, bitsOf]
    rw [bitrun_app, ih hl, bitrun_num _ (byteBits_01 8 c) (by rw [byteBits_length]; omega), byteBits_length, byteBits_num 8 c (by omega) (by omega)]

theorem bits_l1 (l : List Int) (i : Int) (d : Nat) : ∀ (k j : Nat) (x3 : List Int) (n : Int), j + d = 8 → d < k → 0 ≤ n → n < 256 → x3.length + d ≤ 17592186044416 →
    halftoneref01_Bits.l1 k l x3 i n j = halftoneref01_Bits.l0 (k - d - 1) l (x3 ++ byteBits d n) (wrap64 (i + 1)) := by
  induction d with
  | zero =>
    intro k j x3 n hj hk h0 h1 hx
    obtain ⟨k, rfl⟩ : ∃ m, k = m + 1 := ⟨k - 1, by omega⟩
    rw [halftoneref01_Bits.l1, if_neg (by omega)]; simp [byteBits]
  | succ d ih =>
    intro k j x3 n hj hk h0 h1 hx
    obtain ⟨k, rfl⟩ : ∃ m, k = m + 1 := ⟨k - 1, by omega⟩
    rw [halftoneref01_Bits.l1, if_pos (by omega), if_pos (by omega), Int.tmod_eq_emod_of_nonneg h0, Int.tdiv_eq_ediv_of_nonneg h0]
    rw [show wrap64 (n / 2) = n / 2 by unfold wrap64; omega, wrap_nat (by omega), ih k (j + 1) _ _ (by omega) (by omega) (by omega) (by omega) (by simp; omega)]
    rw [show k + 1 - (d + 1) - 1 = k - d - 1 by omega, List.append_assoc]; rfl
theorem bits_l0 (l : List Int) (hl : Bytes l) (hn : l.length ≤ 1000000) (d : Nat) : ∀ (k i : Nat) (x3 : List Int), i + d = l.length → 10 * d < k → x3.length = 8 * i →
    halftoneref01_Bits.l0 k l x3 i = some (x3 ++ bitsOf (l.drop i)) := by
  induction d with
  | zero =>
    intro k i x3 hi hk hx
    obtain ⟨k, rfl⟩ : ∃ m, k = m + 1 := ⟨k - 1, by omega⟩
    rw [halftoneref01_Bits.l0, if_neg (by omega), List.drop_of_length_le (by omega)]
    simp [bitsOf]
  | succ d ih =>
    intro k i x3 hi hk hx
    obtain ⟨k, rfl⟩ : ∃ m, k = m + 1 := ⟨k - 1, by omega⟩
    have hlt : i < l.length := by omega
    have hc := hl l[i] (List.getElem_mem hlt)
    rw [halftoneref01_Bits.l0, if_pos (by omega), if_pos (by omega), rd_nat hlt, show wrap64 l[i] = l[i] by unfold wrap64; omega]
    have := bits_l1 l i 8 k 0 x3 l[i] (by omega) (by omega) (by omega) (by omega) (by omega)
    simp only [Int.cast_ofNat_Int] at this
    rw [this, wrap_nat (by omega), ih _ (i + 1) _ (by omega) (by omega) (by rw [List.length_append, byteBits_length]; omega), List.drop_eq_getElem_cons hlt, List.append_assoc]
    rfl
theorem ev_bits (l : List Int) (hl : Bytes l) (hn : l.length ≤ 1000000) : Ev (fun k => halftoneref01_Bits.f k l) (bitsOf l) := by
  refine rounds_of (halftoneref01_Bits.mono l) ⟨10 * l.length + 1, ?_⟩
  unfold halftoneref01_Bits.f
  have := bits_l0 l hl hn l.length (10 * l.length + 1) 0 [] (by omega) (by omega) rfl
  simpa using this
theorem number_l0 (l : List Int) (hl : Bits01 l) (hn : l.length ≤ 8) (i : Nat) : ∀ (k : Nat) (n : Int), i ≤ l.length → i < k → 0 ≤ n → n < 2 ^ (l.length - i) →
    halftoneref01_Number.l0 k l n ((i : Int) - 1) = some (numB (l.take i) + 2 ^ i * n) := by
  induction i with
  | zero =>
    intro k n hi hk h0 h1
    obtain ⟨k, rfl⟩ : ∃ m, k = m + 1 := ⟨k - 1, by omega⟩
    rw [halftoneref01_Number.l0, if_neg (by omega)]; simp [numB]
  | succ i ih =>
    intro k n hi hk h0 h1
    obtain ⟨k, rfl⟩ : ∃ m, k = m + 1 := ⟨k - 1, by omega⟩
    have hlt : i < l.length := by omega
    have hc := hl l[i] (List.getElem_mem hlt)
    have h256 : (2 : Int) ^ (l.length - (i + 1)) ≤ 2 ^ 8 := by
      have := Nat.pow_le_pow_right (show 0 < 2 by omega) (show l.length - (i + 1) ≤ 8 by omega)
      exact_mod_cast this
    have h28 : (2 : Int) ^ 8 = 256 := by decide
    rw [halftoneref01_Number.l0, if_pos (by omega), if_pos (by omega), if_pos (by omega), show ((i + 1 : Nat) : Int) - 1 = i by omega, rd_nat hlt]
    rw [show wrap64 (2 * n) = 2 * n by unfold wrap64; omega, show wrap64 (2 * n + l[i]) = 2 * n + l[i] by unfold wrap64; omega, show wrap64 ((i : Int) - 1) = (i : Int) - 1 by unfold wrap64; omega]
    have hp : (2 : Int) ^ (l.length - i) = 2 * 2 ^ (l.length - (i + 1)) := by rw [show l.length - i = (l.length - (i + 1)) + 1 by omega, Int.pow_succ, Int.mul_comm]
    rw [ih k _ (by omega) (by omega) (by omega) (by omega)]
    congr 1
    have ht : ∀ (a : List Int) (v : Int), numB (a ++ [v]) = numB a + 2 ^ a.length * v := by
      intro a v
      induction a with
      | nil => simp [numB]
      | cons c a iha => simp only [List.cons_append, numB, List.length_cons, Int.pow_succ]; rw [iha, Int.mul_add, Int.mul_comm (2 ^ a.length) 2, Int.mul_assoc]; omega
    rw [List.take_succ_eq_append_getElem hlt, ht, List.length_take, Nat.min_eq_left (by omega), Int.pow_succ, Int.mul_add, Int.mul_assoc]
    have : 2 ^ i * (2 * n) = 2 ^ i * (2 * n) := rfl
    omega
theorem ev_number (l : List Int) (hl : Bits01 l) (hn : l.length ≤ 8) : Ev (fun k => halftoneref01_Number.f k l) (numB l) := by
  refine rounds_of (halftoneref01_Number.mono l) ⟨l.length + 1, ?_⟩
  unfold halftoneref01_Number.f
  have := number_l0 l hl hn l.length (l.length + 1) 0 (Nat.le_refl _) (by omega) (by omega) (by simp)
  rw [show wrap64 ((l.length : Int) - 1) = (l.length : Int) - 1 by unfold wrap64; omega, this, List.take_length]
  simp
theorem byteBits_numB (l : List Int) (hl : Bits01 l) : byteBits l.length (numB l) = l := by
  induction l with
  | nil => rfl
  | cons c l ih =>
    obtain ⟨hc, hl⟩ := hl.cons
    have hr := numB_range l hl
    simp only [List.length_cons, byteBits, numB]
    rw [show (c + 2 * numB l) % 2 = c by omega, show (c + 2 * numB l) / 2 = numB l by omega, ih hl]
theorem bytes_l0 (L : List Int) (hL : Bits01 L) (m : Nat) (hm : L.length = 8 * m) (hn : m ≤ 1000000) (d : Nat) : ∀ (i : Nat) (x3 : List Int), i + d = m → x3.length = i → Bytes x3 →
    ∃ c, Ev (fun k => halftoneref01_Bytes.l0 k L x3 ((8 * i : Nat) : Int)) (x3 ++ c) ∧ bitsOf c = L.drop (8 * i) ∧ Bytes c ∧ c.length = d := by
  induction d with
  | zero =>
    intro i x3 hi hx hb
    refine ⟨[], ⟨1, fun k hk => ?_⟩, ?_, fun x hx => by simp at hx, rfl⟩
    · obtain ⟨k, rfl⟩ : ∃ m, k = m + 1 := ⟨k - 1, by omega⟩
      show halftoneref01_Bytes.l0 (k + 1) _ _ _ = _
      rw [halftoneref01_Bytes.l0, if_neg (by omega)]; simp
    · rw [List.drop_of_length_le (by omega)]; rfl
  | succ d ih =>
    intro i x3 hi hx hb
    have hpl : ((L.take (8 * i + 8)).drop (8 * i)).length = 8 := by rw [List.length_drop, List.length_take]; omega
    have hp1 : Bits01 ((L.take (8 * i + 8)).drop (8 * i)) := fun x hx => hL x (List.mem_of_mem_take (List.mem_of_mem_drop hx))
    have hr := numB_range _ hp1
    rw [hpl] at hr
    have h28 : (2 : Int) ^ 8 = 256 := by decide
    obtain ⟨K1, e1⟩ := ev_number _ hp1 (by omega)
    obtain ⟨c, ⟨K2, e2⟩, hc1, hc2, hc3⟩ := ih (i + 1) (x3 ++ [numB ((L.take (8 * i + 8)).drop (8 * i))]) (by omega) (by simp [hx]) (hb.app (fun x hx => by simp at hx; subst hx; omega))
    refine ⟨numB ((L.take (8 * i + 8)).drop (8 * i)) :: c, ⟨K1 + K2 + 1, fun k hk => ?_⟩, ?_, ?_, by simp [hc3]⟩
    · obtain ⟨k, rfl⟩ : ∃ m, k = m + 1 := ⟨k - 1, by omega⟩
      have f1 : halftoneref01_Number.f k _ = _ := e1 k (by omega)
      have f2 : halftoneref01_Bytes.l0 k _ _ _ = _ := e2 k (by omega)
      show halftoneref01_Bytes.l0 (k + 1) _ _ _ = _
      have hmn : mn (wrap64 (((8 * i : Nat) : Int) + 8)) (L.length : Int) = ((8 * i + 8 : Nat) : Int) := by
        rw [show wrap64 (((8 * i : Nat) : Int) + 8) = ((8 * i + 8 : Nat) : Int) by unfold wrap64; omega]
        unfold mn; split <;> omega
      rw [halftoneref01_Bytes.l0, if_pos (by omega), if_pos (by omega), hmn, if_pos (by omega), if_pos (by omega), Int.toNat_natCast, Int.toNat_natCast, f1]
      simp only [Option.bind_some]
      rw [if_pos (by omega), Int.emod_eq_of_lt (by omega) (by omega), show wrap64 (((8 * i : Nat) : Int) + 8) = ((8 * (i + 1) : Nat) : Int) by unfold wrap64; omega, f2]
      simp
    · simp only [bitsOf]
      have := byteBits_numB _ hp1
      rw [hpl] at this
      rw [this, hc1]
      have h3 : L.drop (8 * i) = (L.drop (8 * i)).take 8 ++ (L.drop (8 * i)).drop 8 := (List.take_append_drop 8 _).symm
      conv => rhs; rw [h3]
      rw [List.drop_drop, List.drop_take, show 8 * i + 8 - 8 * i = 8 by omega, show 8 * (i + 1) = 8 * i + 8 by omega]
    · intro x hx
      rcases List.mem_cons.1 hx with rfl | hx
      · omega
      · exact hc2 x hx
theorem ev_bytes (L : List Int) (hL : Bits01 L) (m : Nat) (hm : L.length = 8 * m) (hn : m ≤ 1000000) : ∃ c, Ev (fun k => halftoneref01_Bytes.f k L) c ∧ bitsOf c = L ∧ Bytes c ∧ c.length = m := by
  obtain ⟨c, h1, h2, h3, h4⟩ := bytes_l0 L hL m hm hn m 0 [] (by omega) rfl (fun x hx => by simp at hx)
  exact ⟨c, by simpa [halftoneref01_Bytes.f] using h1, by simpa using h2, h3, h4⟩

/-- what Turned leaves outside its 32 bits -/
def Near (at_ : Nat) (L L' : List Int) : Prop := L'.length = L.length ∧ Bits01 L' ∧ ∀ j, j < at_ ∨ at_ + 32 ≤ j → L'[j]? = L[j]?
theorem xor01 {a b : Int} (ha : a = 0 ∨ a = 1) (hb : b = 0 ∨ b = 1) : Go.bits .xor .i64 a b = 0 ∨ Go.bits .xor .i64 a b = 1 := by
  rcases ha with rfl | rfl <;> rcases hb with rfl | rfl <;> decide
theorem bit01 {x : Int} (h0 : 0 ≤ x) (h1 : x < 4294967296) (i : Nat) (hi : i < 32) : wrap64 (Go.bits .and .u32 (shr .u32 x (i : Int)) 1) = 0 ∨ wrap64 (Go.bits .and .u32 (shr .u32 x (i : Int)) 1) = 1 := by
  have hs : shr .u32 x (i : Int) = num (reg x >>> i) := by
    have hx : x = num (reg x) := (num_reg h0 h1).symm
    rw [hx, reg_num]
    unfold shr num
    rw [show min (i : Int).toNat IntKind.u32.bits = i by simp [IntKind.bits]; omega, BitVec.toNat_ushiftRight, Nat.shiftRight_eq_div_pow]
    simp
  rw [hs, low_num]
  split
  · exact .inr (by unfold wrap64; omega)
  · exact .inl (by unfold wrap64; omega)
theorem turned_l0 (L : List Int) (m : Nat) (hm : L.length = 8 * m) (hn : m ≤ 1000000) (at_ : Nat) (hat : at_ < 8 * m) (y : Int) (hy0 : 0 ≤ y) (hy1 : y < 4294967296) (d : Nat) : ∀ (i : Nat) (X : List Int), i + d = 32 → Near at_ L X →
    ∃ c, Ev (fun k => halftonelaw03_Turned.l0 k at_ y X i) c ∧ Near at_ L (bitsOf c) ∧ Bytes c ∧ c.length = m := by
  induction d with
  | zero =>
    intro i X hi hX
    obtain ⟨c, ⟨K, h1⟩, h2, h3, h4⟩ := ev_bytes X hX.2.1 m (by rw [hX.1, hm]) hn
    refine ⟨c, ⟨K + 1, fun k hk => ?_⟩, by rw [h2]; exact hX, h3, h4⟩
    obtain ⟨k, rfl⟩ : ∃ m, k = m + 1 := ⟨k - 1, by omega⟩
    have f1 : halftoneref01_Bytes.f k X = _ := h1 k (by omega)
    show halftonelaw03_Turned.l0 (k + 1) _ _ _ _ = _
    rw [halftonelaw03_Turned.l0, if_neg (by omega), f1]; rfl
  | succ d ih =>
    intro i X hi hX
    have hw : wrap64 ((at_ : Int) + i) = ((at_ + i : Nat) : Int) := by unfold wrap64; omega
    have hu : IntKind.u64.wrap (i : Int) = i := by simp [IntKind.wrap, IntKind.bits, IntKind.signed]; omega
    by_cases hlt : at_ + i < X.length
    · have hv := xor01 (hX.2.1 X[at_ + i] (List.getElem_mem hlt)) (bit01 hy0 hy1 i (by omega))
      obtain ⟨c, ⟨K, h1⟩, h2⟩ := ih (i + 1) (X.set (at_ + i) (Go.bits .xor .i64 X[at_ + i] (wrap64 (Go.bits .and .u32 (shr .u32 y (i : Int)) 1)))) (by omega) (by
        refine ⟨by rw [List.length_set]; exact hX.1, fun x hx => ?_, fun j hj => ?_⟩
        · rcases List.mem_or_eq_of_mem_set hx with h | h
          · exact hX.2.1 x h
          · subst h; exact hv
        · rw [List.getElem?_set_ne (by omega)]; exact hX.2.2 j hj)
      refine ⟨c, ⟨K + 1, fun k hk => ?_⟩, h2⟩
      obtain ⟨k, rfl⟩ : ∃ m, k = m + 1 := ⟨k - 1, by omega⟩
      have f1 : halftonelaw03_Turned.l0 k _ _ _ _ = _ := h1 k (by omega)
      show halftonelaw03_Turned.l0 (k + 1) _ _ _ _ = _
      rw [halftonelaw03_Turned.l0, if_pos (by omega), hw, if_pos (by omega), if_pos (by omega), hu, if_pos (by omega), Int.toNat_natCast, rd_nat hlt, wrap_nat (by omega), f1]
    · obtain ⟨c, ⟨K, h1⟩, h2⟩ := ih (i + 1) X (by omega) hX
      refine ⟨c, ⟨K + 1, fun k hk => ?_⟩, h2⟩
      obtain ⟨k, rfl⟩ : ∃ m, k = m + 1 := ⟨k - 1, by omega⟩
      have f1 : halftonelaw03_Turned.l0 k _ _ _ _ = _ := h1 k (by omega)
      show halftonelaw03_Turned.l0 (k + 1) _ _ _ _ = _
      rw [halftonelaw03_Turned.l0, if_pos (by omega), hw, if_neg (by omega), wrap_nat (by omega), f1]
theorem ev_turned (b : List Int) (hb : Bytes b) (hn : b.length ≤ 1000000) (at_ : Nat) (hat : at_ < 8 * b.length) (y : Int) (hy0 : 0 ≤ y) (hy1 : y < 4294967296) :
    ∃ c, Ev (fun k => halftonelaw03_Turned.f k b at_ y) c ∧ Near at_ (bitsOf b) (bitsOf c) ∧ Bytes c ∧ c.length = b.length := by
  obtain ⟨K1, e1⟩ := ev_bits b hb hn
  obtain ⟨c, ⟨K2, e2⟩, h⟩ := turned_l0 (bitsOf b) b.length (bitsOf_length b) hn at_ hat y hy0 hy1 32 0 (bitsOf b) (by omega) ⟨rfl, bitsOf_01 b, fun _ _ => rfl⟩
  refine ⟨c, ⟨K1 + K2, fun k hk => ?_⟩, h⟩
  have f1 : halftoneref01_Bits.f k b = _ := e1 k (by omega)
  have f2 : halftonelaw03_Turned.l0 k _ _ _ _ = _ := e2 k (by omega)
  show halftonelaw03_Turned.f k b at_ y = _
  unfold halftonelaw03_Turned.f
  rw [f1]
  exact f2
/-- a burst shows -/
theorem burst_shows (b c : List Int) (hb : Bytes b) (hc : Bytes c) (at_ : Nat) (h : Near at_ (bitsOf b) (bitsOf c)) (x : W32) (hx : run x b = run x c) : b = c := by
  rw [run_bits b hb, run_bits c hc] at hx
  refine bitsOf_inj hb hc ?_
  have hlen : (bitsOf b).length = (bitsOf c).length := h.1.symm
  obtain ⟨D, hD⟩ : ∃ D, List.zipWith xorB (bitsOf b) (bitsOf c) = D := ⟨_, rfl⟩
  have hz : ∀ j, j < at_ ∨ at_ + 32 ≤ j → ∀ v, D[j]? = some v → v = 0 := by
    intro j hj v hv
    have := h.2.2 j hj
    rw [← hD, List.getElem?_zipWith] at hv
    rw [this] at hv
    cases hb' : (bitsOf b)[j]? with
    | none => rw [hb'] at hv; simp at hv
    | some w => rw [hb'] at hv; simp [xorB] at hv; exact hv.symm
  refine burst (bitsOf b) (bitsOf c) (D.take at_) ((D.drop at_).take 32) ((D.drop at_).drop 32) x hlen (bitsOf_01 b) (bitsOf_01 c) ?_ ?_ ?_ (by rw [List.length_take]; omega) hx
  · rw [hD, List.append_assoc, List.take_append_drop, List.take_append_drop]
  · intro v hv
    obtain ⟨j, hj, rfl⟩ := List.mem_iff_getElem.1 hv
    rw [List.length_take] at hj
    exact hz j (by omega) _ (by rw [List.getElem_take]; exact List.getElem?_eq_getElem (by omega))
  · intro v hv
    rw [List.drop_drop] at hv
    obtain ⟨j, hj, rfl⟩ := List.mem_iff_getElem.1 hv
    rw [List.length_drop] at hj
    exact hz (at_ + 32 + j) (by omega) _ (by rw [List.getElem_drop]; exact List.getElem?_eq_getElem (by omega))
end Go.Proofs.Ytapaodagnpaekaa.Lib
