/- The product of two registers and its algebra: what times and Join come to. -/
import Derived.Test.YteeahkioeabmoaaP0
namespace Go.Proofs.Yteeahkioeabmoaa.Lib
open Go.RowKit Go.Proofs.YteeahkioeabmoaaW.PrintWords Go.Proofs.YteeahkioeabmoaaW.PrintLast Go.Proofs.YteeahkioeabmoaaW.PrintMore

/-! the step is linear, and nothing but nought comes to nought -/
theorem step_xor (x y : W32) : step (x ^^^ y) = step x ^^^ step y := by
  apply BitVec.eq_of_getLsbD_eq
  intro i hi
  unfold step
  rw [BitVec.ushiftRight_xor_distrib]
  simp only [BitVec.getLsbD_xor]
  have hc : ∀ c : Bool, (if c = true then poly else 0#32).getLsbD i = (c && poly.getLsbD i) := fun c => by cases c <;> simp
  simp only [hc]
  generalize (x >>> 1).getLsbD i = p
  generalize (y >>> 1).getLsbD i = q
  generalize poly.getLsbD i = r
  cases x.getLsbD 0 <;> cases y.getLsbD 0 <;> cases p <;> cases q <;> cases r <;> rfl
theorem step_zero : step 0#32 = 0#32 := by decide
theorem step_inj {x : W32} (h : step x = 0#32) : x = 0#32 := by
  unfold step at h
  cases hx : x.getLsbD 0
  · rw [hx] at h
    apply BitVec.eq_of_getLsbD_eq
    intro i hi
    cases i with
    | zero => rw [hx]; simp
    | succ i =>
      have := congrArg (fun z : W32 => z.getLsbD i) h
      simpa [Nat.add_comm] using this
  · rw [hx] at h
    have := congrArg (fun z : W32 => z.getLsbD 31) h
    revert this
    simp only [if_true, BitVec.getLsbD_xor, BitVec.getLsbD_ushiftRight]
    rw [BitVec.getLsbD_of_ge x (1 + 31) (by omega)]
    intro h9
    exact absurd h9 (by decide)
theorem stepN_xor (n : Nat) : ∀ x y, stepN n (x ^^^ y) = stepN n x ^^^ stepN n y := by
  induction n with
  | zero => intro x y; rfl
  | succ n ih => intro x y; simp only [stepN]; rw [step_xor, ih]
theorem stepN_zero (n : Nat) : stepN n 0#32 = 0#32 := by
  induction n with
  | zero => rfl
  | succ n ih => simp only [stepN]; rw [step_zero, ih]
theorem stepN_inj (n : Nat) : ∀ {x}, stepN n x = 0#32 → x = 0#32 := by
  induction n with
  | zero => intro x h; exact h
  | succ n ih => intro x h; exact step_inj (ih h)
theorem stepN_add (m n : Nat) : ∀ x, stepN (m + n) x = stepN n (stepN m x) := by
  induction m with
  | zero => intro x; simp [stepN]
  | succ m ih => intro x; rw [Nat.succ_add]; exact ih _
theorem stepN_step (n : Nat) : ∀ x, stepN n (step x) = step (stepN n x) := by
  induction n with
  | zero => intro x; rfl
  | succ n ih => intro x; exact ih _
theorem stepN_eq {n : Nat} {x y : W32} (h : stepN n x = stepN n y) : x = y := by
  have h1 : stepN n (x ^^^ y) = 0#32 := by rw [stepN_xor, h, BitVec.xor_self]
  have h2 := stepN_inj n h1
  have : x ^^^ y ^^^ y = 0#32 ^^^ y := by rw [h2]
  rwa [BitVec.xor_assoc, BitVec.xor_self, BitVec.xor_zero, BitVec.zero_xor] at this
theorem run_two (l : List Int) : ∀ x y, run x l = run y l ^^^ stepN (8 * l.length) (x ^^^ y) := by
  induction l with
  | nil =>
    intro x y
    show x = y ^^^ (x ^^^ y)
    rw [BitVec.xor_comm x y, ← BitVec.xor_assoc, BitVec.xor_self, BitVec.zero_xor]
  | cons c l ih =>
    intro x y
    show run _ l = run _ l ^^^ _
    rw [ih (stepN 8 (x ^^^ reg c)) (stepN 8 (y ^^^ reg c)), ← stepN_xor]
    congr 1
    rw [List.length_cons, Nat.mul_add, Nat.add_comm, stepN_add]
    congr 2
    apply BitVec.eq_of_getLsbD_eq
    intro i hi
    simp only [BitVec.getLsbD_xor]
    cases x.getLsbD i <;> cases y.getLsbD i <;> cases (reg c).getLsbD i <;> rfl

/-! the product of two: a's bits say which steps of b are summed up -/
def mul : Nat → W32 → W32 → W32
  | 0, _, _ => 0#32
  | i + 1, a, b => (if a.getLsbD i then b else 0#32) ^^^ mul i a (step b)
theorem mul_xor (n : Nat) (a : W32) : ∀ b c, mul n a (b ^^^ c) = mul n a b ^^^ mul n a c := by
  induction n with
  | zero => intro b c; simp [mul]
  | succ n ih =>
    intro b c
    simp only [mul]
    rw [step_xor, ih]
    apply BitVec.eq_of_getLsbD_eq
    intro i hi
    cases a.getLsbD n
    · simp
    · simp only [if_true, BitVec.getLsbD_xor]
      cases b.getLsbD i <;> cases c.getLsbD i <;> cases (mul n a (step b)).getLsbD i <;> cases (mul n a (step c)).getLsbD i <;> rfl
theorem mul_of_op {T : W32 → W32} (hz : T 0#32 = 0#32) (hx : ∀ b c, T (b ^^^ c) = T b ^^^ T c) (hs : ∀ b, T (step b) = step (T b)) (n : Nat) (a : W32) : ∀ b, mul n a (T b) = T (mul n a b) := by
  induction n with
  | zero => intro b; exact hz.symm
  | succ n ih =>
    intro b
    simp only [mul]
    rw [hx, ← hs, ih]
    congr 1
    split
    · rfl
    · exact hz.symm
theorem mul_zero (n : Nat) (a : W32) : mul n a 0#32 = 0#32 := by
  induction n with
  | zero => rfl
  | succ n ih => simp only [mul]; rw [step_zero, ih]; split <;> rfl
theorem mul_step (n : Nat) (a b : W32) : mul n a (step b) = step (mul n a b) := mul_of_op step_zero step_xor (fun _ => rfl) n a b
theorem step_two (i : Nat) (h : i < 31) : step (BitVec.twoPow 32 (i + 1)) = BitVec.twoPow 32 i := by
  have : ∀ j : Fin 31, step (BitVec.twoPow 32 (j.val + 1)) = BitVec.twoPow 32 j.val := by decide +kernel
  exact this ⟨i, h⟩
theorem mul_one (n : Nat) (a : W32) (h : n ≤ 31) : ∀ j, j < 32 → (mul (n + 1) a (BitVec.twoPow 32 n)).getLsbD j = (decide (j ≤ n) && a.getLsbD j) := by
  induction n with
  | zero =>
    intro j hj
    simp only [mul]
    cases hb : a.getLsbD 0 <;> cases j <;> simp_all
  | succ n ih =>
    intro j hj
    rw [mul, step_two n (by omega), BitVec.getLsbD_xor, ih (by omega) j hj]
    rcases Nat.lt_trichotomy j (n + 1) with h1 | h1 | h1
    · have : (if a.getLsbD (n + 1) then BitVec.twoPow 32 (n + 1) else 0#32).getLsbD j = false := by
        split
        · rw [BitVec.getLsbD_twoPow]; simp; omega
        · simp
      rw [this]; simp; rw [decide_eq_true (by omega), decide_eq_true (by omega)]
    · subst h1
      have : (if a.getLsbD (n + 1) then BitVec.twoPow 32 (n + 1) else 0#32).getLsbD (n + 1) = a.getLsbD (n + 1) := by
        split
        · rename_i hq; rw [BitVec.getLsbD_twoPow, hq]; simp [hj]
        · rename_i hq; rw [Bool.not_eq_true] at hq; rw [hq]; simp
      rw [this, decide_eq_false (show ¬ n + 1 ≤ n by omega), decide_eq_true (show n + 1 ≤ n + 1 by omega)]; simp
    · have : (if a.getLsbD (n + 1) then BitVec.twoPow 32 (n + 1) else 0#32).getLsbD j = false := by
        split
        · rw [BitVec.getLsbD_twoPow]; simp; omega
        · simp
      rw [this, decide_eq_false (by omega), decide_eq_false (by omega)]; simp
def one : W32 := BitVec.twoPow 32 31
theorem mul_unit (a : W32) : mul 32 a one = a := by
  apply BitVec.eq_of_getLsbD_eq
  intro i hi
  have := mul_one 31 a (by omega) i hi
  unfold one
  rw [this, decide_eq_true (by omega)]
  simp
/-- whatever is linear and goes with the step is a product with what it makes of one -/
theorem op_mul {T : W32 → W32} (hz : T 0#32 = 0#32) (hx : ∀ b c, T (b ^^^ c) = T b ^^^ T c) (hs : ∀ b, T (step b) = step (T b)) (b : W32) : T b = mul 32 b (T one) := by
  rw [mul_of_op hz hx hs, mul_unit]
theorem mul_comm_ (a b : W32) : mul 32 a b = mul 32 b a := by
  have h := op_mul (T := mul 32 a) (mul_zero 32 a) (mul_xor 32 a) (mul_step 32 a) b
  rw [mul_unit] at h
  exact h
/-- a step of so many bits, as a product -/
theorem steps_mul (m : Nat) (b : W32) : stepN m b = mul 32 (stepN m one) b := by
  rw [op_mul (T := stepN m) (stepN_zero m) (stepN_xor m) (stepN_step m), mul_comm_]
theorem square (m : Nat) {s : W32} (h : s = stepN m one) : mul 32 s s = stepN (m + m) one := by
  rw [stepN_add]; subst h; rw [← steps_mul]

/-! the program's product -/
theorem tail_num (a : W32) (i : Nat) (hi : i < 32) : (-(Go.bits .and .u32 (shr .u32 (num a) (i : Int)) 1)) % 4294967296 = num (if a.getLsbD i then BitVec.allOnes 32 else 0#32) := by
  have hs : shr .u32 (num a) (i : Int) = num (a >>> i) := by
    unfold shr num
    rw [show min (i : Int).toNat IntKind.u32.bits = i by simp [IntKind.bits]; omega, BitVec.toNat_ushiftRight, Nat.shiftRight_eq_div_pow]
    simp
  rw [hs, low_num]
  have : (a >>> i).getLsbD 0 = a.getLsbD i := by rw [BitVec.getLsbD_ushiftRight]; simp
  rw [this]
  split <;> rfl
theorem times_l0 (a : W32) (n : Nat) (hn : n ≤ 32) : ∀ (k : Nat) (b p : W32), n < k →
    crc_times.l0 k (num a) (num b) (num p) ((n : Int) - 1) = some (num (p ^^^ mul n a b)) := by
  induction n with
  | zero =>
    intro k b p hk
    obtain ⟨k, rfl⟩ : ∃ m, k = m + 1 := ⟨k - 1, by omega⟩
    rw [crc_times.l0, if_neg (by omega)]
    simp [mul]
  | succ n ih =>
    intro k b p hk
    obtain ⟨k, rfl⟩ : ∃ m, k = m + 1 := ⟨k - 1, by omega⟩
    have hu : IntKind.u64.wrap (n : Int) = n := by simp [IntKind.wrap, IntKind.bits, IntKind.signed]; omega
    rw [crc_times.l0, if_pos (by omega), show ((n + 1 : Nat) : Int) - 1 = n by omega, hu, if_pos (by omega), tail_num a n (by omega), bits_and, bits_xor, step_num]
    rw [show wrap64 ((n : Int) - 1) = (n : Int) - 1 by unfold wrap64; omega, ih (by omega) k _ _ (by omega)]
    congr 2
    simp only [mul]
    rw [← BitVec.xor_assoc]
    congr 2
    split
    · rw [BitVec.and_allOnes]
    · rw [BitVec.and_zero]
theorem ev_times (a b : W32) : Ev (fun k => crc_times.f k (num a) (num b)) (num (mul 32 a b)) := by
  refine rounds_of (crc_times.mono _ _) ⟨33, ?_⟩
  unfold crc_times.f
  have := times_l0 a 32 (by omega) 33 b 0#32 (by omega)
  simpa [num] using this
theorem i64_low {x : Int} (h0 : 0 ≤ x) (h1 : x < 9223372036854775808) : Go.bits .and .i64 x 1 = x % 2 :=
  bits_mask .i64 63 (by decide) (fun n h0 h1 => by rw [IntKind.wrap_i64]; omega) 1 (by decide) x h0 (by simpa using h1)
theorem join_l0 (b : W32) (N : Nat) : ∀ (n : Nat) (a s : W32) (m : Nat), n ≤ N → n < 9223372036854775808 → s = stepN m one →
    Ev (fun k => crc_Join.l0 k (num a) (num b) n (num s)) (num (stepN (m * n) a ^^^ b)) := by
  induction N with
  | zero =>
    intro n a s m hn _ hs
    obtain rfl : n = 0 := by omega
    refine ⟨1, fun k hk => ?_⟩
    obtain ⟨k, rfl⟩ : ∃ m, k = m + 1 := ⟨k - 1, by omega⟩
    show crc_Join.l0 (k + 1) _ _ _ _ = _
    rw [crc_Join.l0, if_neg (by omega), bits_xor]
    rfl
  | succ N ih =>
    intro n a s m hn hb hs
    by_cases h0 : n = 0
    · subst h0
      refine ⟨1, fun k hk => ?_⟩
      obtain ⟨k, rfl⟩ : ∃ m, k = m + 1 := ⟨k - 1, by omega⟩
      show crc_Join.l0 (k + 1) _ _ _ _ = _
      rw [crc_Join.l0, if_neg (by omega), bits_xor]
      rfl
    have hs2 := square m hs
    obtain ⟨K1, e1⟩ := ev_times s a
    obtain ⟨K2, e2⟩ := ev_times s s
    by_cases ho : n % 2 = 1
    · obtain ⟨K3, e3⟩ := ih (n / 2) (mul 32 s a) (mul 32 s s) (m + m) (by omega) (by omega) hs2
      refine ⟨K1 + K2 + K3 + 1, fun k hk => ?_⟩
      obtain ⟨k, rfl⟩ : ∃ m, k = m + 1 := ⟨k - 1, by omega⟩
      have f1 : crc_times.f k _ _ = _ := e1 k (by omega)
      have f2 : crc_times.f k _ _ = _ := e2 k (by omega)
      have f3 : crc_Join.l0 k _ _ _ _ = _ := e3 k (by omega)
      show crc_Join.l0 (k + 1) _ _ _ _ = _
      rw [crc_Join.l0, if_pos (by omega), i64_low (by omega) (by omega), if_pos (by omega), f1]
      simp only [Option.bind_some]
      rw [f2]
      simp only [Option.bind_some]
      rw [show (n : Int) / 2 = ((n / 2 : Nat) : Int) by omega, f3]
      congr 3
      rw [hs, ← steps_mul, ← stepN_add]
      congr 1
      rw [show m * n = m * (2 * (n / 2) + 1) by congr 1; omega, Nat.mul_add, Nat.mul_one, ← Nat.mul_assoc, Nat.mul_two]; omega
    · obtain ⟨K3, e3⟩ := ih (n / 2) a (mul 32 s s) (m + m) (by omega) (by omega) hs2
      refine ⟨K2 + K3 + 1, fun k hk => ?_⟩
      obtain ⟨k, rfl⟩ : ∃ m, k = m + 1 := ⟨k - 1, by omega⟩
      have f2 : crc_times.f k _ _ = _ := e2 k (by omega)
      have f3 : crc_Join.l0 k _ _ _ _ = _ := e3 k (by omega)
      show crc_Join.l0 (k + 1) _ _ _ _ = _
      rw [crc_Join.l0, if_pos (by omega), i64_low (by omega) (by omega), if_neg (by omega), f2]
      simp only [Option.bind_some]
      rw [show (n : Int) / 2 = ((n / 2 : Nat) : Int) by omega, f3]
      congr 3
      rw [show m * n = m * (2 * (n / 2)) by congr 1; omega, ← Nat.mul_assoc, Nat.mul_two]
theorem ev_join (a b : List Int) (hb : b.length < 9223372036854775807) : Ev (fun k => crc_Join.f k (moreN 0 a) (moreN 0 b) b.length) (moreN 0 (a ++ b)) := by
  have h := join_l0 (~~~ run (~~~ reg 0) b) b.length b.length (~~~ run (~~~ reg 0) a) (stepN 8 one) 8 (Nat.le_refl _) (by omega) rfl
  have e : num (stepN 8 one) = 8388608 := by decide +kernel
  rw [e] at h
  have e2 : num (stepN (8 * b.length) (~~~ run (~~~ reg 0) a) ^^^ ~~~ run (~~~ reg 0) b) = moreN 0 (a ++ b) := by
    unfold moreN
    congr 1
    rw [run_app, run_two b (run (~~~ reg 0) a) (~~~ reg 0)]
    have : run (~~~ reg 0) a ^^^ ~~~ reg 0 = ~~~ run (~~~ reg 0) a := by
      have h0 : ~~~ reg 0 = BitVec.allOnes 32 := by decide
      rw [h0, BitVec.xor_comm, ones_xor]
    rw [this]
    generalize stepN _ _ = x
    generalize run (~~~ reg 0) b = y
    apply BitVec.eq_of_getLsbD_eq
    intro i hi
    rw [BitVec.getLsbD_xor, BitVec.getLsbD_not, BitVec.getLsbD_not, BitVec.getLsbD_xor, decide_eq_true hi]
    cases x.getLsbD i <;> cases y.getLsbD i <;> rfl
  rw [e2] at h
  exact h
end Go.Proofs.Yteeahkioeabmoaa.Lib
