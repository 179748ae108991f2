/- The law CrcSealed over the plain functions: a text with its sum behind it comes to one register, whatever the text. -/
import Derived.Test.YteeahkioeabmoaaP4
import Derived.Test.YteeahkioeabmoaaF6
namespace Go.Proofs.Yteeahkioeabmoaa.Lib
open Go.RowKit Go.Proofs.YteeahkioeabmoaaW.PrintWords Go.Proofs.YteeahkioeabmoaaW.PrintLast Go.Proofs.YteeahkioeabmoaaW.PrintMore
theorem numB_app (a b : List Int) : numB (a ++ b) = numB a + 2 ^ a.length * numB b := by
  induction a with
  | nil => simp [numB]
  | cons c a ih => simp only [List.cons_append, numB, List.length_cons, Int.pow_succ]; rw [ih, Int.mul_add, Int.mul_comm (2 ^ a.length) 2, Int.mul_assoc]; omega
theorem byte_first {c : Int} (hc : 0 ≤ c ∧ c ≤ 255) (r : List Int) : numB (byteBits 8 c ++ r) = c + 256 * numB r := by
  rw [numB_app, byteBits_length, byteBits_num 8 c hc.1 (by have : (2 : Int) ^ 8 = 256 := by decide
                                                           omega)]
  rfl
theorem run_four {a b c d : Int} (ha : 0 ≤ a ∧ a ≤ 255) (hb : 0 ≤ b ∧ b ≤ 255) (hc : 0 ≤ c ∧ c ≤ 255) (hd : 0 ≤ d ∧ d ≤ 255) (x : W32) : run x [a, b, c, d] = stepN 32 (x ^^^ reg (a + 256 * b + 65536 * c + 16777216 * d)) := by
  have hl : Bytes [a, b, c, d] := fun v hv => by
    simp only [List.mem_cons, List.not_mem_nil, or_false] at hv
    rcases hv with rfl | rfl | rfl | rfl <;> assumption
  rw [run_bits _ hl, bitrun_num _ (bitsOf_01 _) (by rw [bitsOf_length]; simp), bitsOf_length]
  have e : numB (bitsOf [a, b, c, d]) = a + 256 * b + 65536 * c + 16777216 * d := by
    simp only [bitsOf]
    rw [byte_first ha, byte_first hb, byte_first hc, byte_first hd]
    simp only [numB]
    omega
  rw [e]
  rfl
theorem or_shl {x y : Int} (i : Nat) (m : Int) (hm : m = 2 ^ i) (hi : i ≤ 24) (hx0 : 0 ≤ x) (hx : x < m) (hy : 0 ≤ y ∧ y ≤ 255) : Go.bits .or .u32 x (y % 4294967296 * m % 4294967296) = x + m * y := by
  have h24 : m ≤ 16777216 := by
    have h1 := Nat.pow_le_pow_right (show 0 < 2 by omega) hi
    have h2 : (2 : Int) ^ i ≤ 2 ^ 24 := by exact_mod_cast h1
    have h3 : (2 : Int) ^ 24 = 16777216 := by decide
    omega
  have hym : y * m ≤ 255 * 16777216 := Int.mul_le_mul hy.2 h24 (by omega) (by omega)
  have hym0 : 0 ≤ y * m := Int.mul_nonneg hy.1 (by omega)
  rw [Int.emod_eq_of_lt (a := y) (by omega) (by omega), Int.emod_eq_of_lt (by omega) (by omega)]
  have hd : y * m % 2 ^ i = 0 := by rw [← hm]; exact Int.mul_emod_left y m
  have hcomm : Go.bits .or .u32 x (y * m) = Go.bits .or .u32 (y * m) x := by
    unfold Go.bits; simp only [BitVec.or_comm]
  rw [hcomm, bits_join .u32 32 (by decide) (fun n h0 h1 => by rw [IntKind.wrap_u32]; omega) i (y * m) x hym0 hd (by omega) hx0 (by rw [← hm]; exact hx) (by omega), Int.mul_comm m y]
  omega
theorem or_four {a b c d : Int} (ha : 0 ≤ a ∧ a ≤ 255) (hb : 0 ≤ b ∧ b ≤ 255) (hc : 0 ≤ c ∧ c ≤ 255) (hd : 0 ≤ d ∧ d ≤ 255) :
    Go.bits .or .u32 (Go.bits .or .u32 (Go.bits .or .u32 (a % 4294967296) ((b % 4294967296 * 256) % 4294967296)) ((c % 4294967296 * 65536) % 4294967296)) ((d % 4294967296 * 16777216) % 4294967296) = a + 256 * b + 65536 * c + 16777216 * d := by
  rw [Int.emod_eq_of_lt (a := a) (by omega) (by omega)]
  rw [or_shl 8 256 (by decide) (by omega) ha.1 (by omega) hb, or_shl 16 65536 (by decide) (by omega) (by omega) (by omega) hc, or_shl 24 16777216 (by decide) (by omega) (by omega) (by omega) hd]
theorem not_xor_self (x : W32) : x ^^^ ~~~ x = BitVec.allOnes 32 := by
  apply BitVec.eq_of_getLsbD_eq
  intro i hi
  rw [BitVec.getLsbD_xor, BitVec.getLsbD_not, BitVec.getLsbD_allOnes, decide_eq_true hi]
  cases x.getLsbD i <;> rfl
theorem of_ones {x y : W32} (h : x ^^^ y = BitVec.allOnes 32) : y = ~~~ x := by
  have : x ^^^ (x ^^^ y) = x ^^^ BitVec.allOnes 32 := by rw [h]
  rw [← BitVec.xor_assoc, BitVec.xor_self, BitVec.zero_xor, BitVec.xor_comm, ones_xor] at this
  exact this
/-- the four bytes of a number -/
def four (s : Int) : List Int := [s % 256, s / 256 % 256, s / 65536 % 256, s / 16777216 % 256]
theorem four_bytes (s : Int) : Bytes (four s) := fun v hv => by
  simp only [four, List.mem_cons, List.not_mem_nil, or_false] at hv
  rcases hv with rfl | rfl | rfl | rfl <;> omega
theorem sealed_run (b : List Int) : run (~~~ reg 0) (b ++ four (moreN 0 b)) = stepN 32 (BitVec.allOnes 32) := by
  have hr := moreN_range 0 b
  rw [run_app]
  unfold four
  rw [run_four (by omega) (by omega) (by omega) (by omega)]
  congr 1
  have e : moreN 0 b % 256 + 256 * (moreN 0 b / 256 % 256) + 65536 * (moreN 0 b / 65536 % 256) + 16777216 * (moreN 0 b / 16777216 % 256) = moreN 0 b := by omega
  rw [e]
  unfold moreN
  rw [reg_num, not_xor_self]
/-- SEALED: a text with its sum behind it -/
theorem sealed_iff (b c : List Int) (n : Nat) (hc : Bytes c) (hl : c.length = n + 4) :
    moreN 0 (c.take n) = (c[n]'(by omega)) + 256 * (c[n + 1]'(by omega)) + 65536 * (c[n + 2]'(by omega)) + 16777216 * (c[n + 3]'(by omega)) ↔ run (~~~ reg 0) (b ++ four (moreN 0 b)) = run (~~~ reg 0) c := by
  have h0 := hc (c[n]'(by omega)) (List.getElem_mem _)
  have h1 := hc (c[n + 1]'(by omega)) (List.getElem_mem _)
  have h2 := hc (c[n + 2]'(by omega)) (List.getElem_mem _)
  have h3 := hc (c[n + 3]'(by omega)) (List.getElem_mem _)
  have hd : c.drop n = [c[n]'(by omega), c[n + 1]'(by omega), c[n + 2]'(by omega), c[n + 3]'(by omega)] := by
    rw [List.drop_eq_getElem_cons (by omega), List.drop_eq_getElem_cons (by omega), List.drop_eq_getElem_cons (by omega), List.drop_eq_getElem_cons (by omega), List.drop_of_length_le (by omega)]
  have hr : run (~~~ reg 0) c = stepN 32 (run (~~~ reg 0) (c.take n) ^^^ reg ((c[n]'(by omega)) + 256 * (c[n + 1]'(by omega)) + 65536 * (c[n + 2]'(by omega)) + 16777216 * (c[n + 3]'(by omega)))) := by
    conv => lhs; rw [← List.take_append_drop n c, run_app, hd, run_four h0 h1 h2 h3]
  rw [sealed_run, hr]
  generalize hT : (c[n]'(by omega)) + 256 * (c[n + 1]'(by omega)) + 65536 * (c[n + 2]'(by omega)) + 16777216 * (c[n + 3]'(by omega)) = T
  have hTr : 0 ≤ T ∧ T < 4294967296 := by omega
  constructor
  · intro h
    rw [← h]
    unfold moreN
    rw [reg_num, not_xor_self]
  · intro h
    have := of_ones (stepN_eq h).symm
    unfold moreN
    rw [← this, num_reg hTr.1 hTr.2]
theorem wrap_three (n k : Nat) (h : n ≤ 2000) (hk : k ≤ 3) : wrap64 ((n : Int) + (k : Int)) = ((n + k : Nat) : Int) := by unfold wrap64; omega
theorem lens (b c : List Int) (h : c.length = b.length + 4) : (0 : Int) ≤ (b.length : Int) ∧ (b.length : Int) < (c.length : Int) ∧ (0 : Int) ≤ ((b.length + 1 : Nat) : Int) ∧ ((b.length + 1 : Nat) : Int) < (c.length : Int) ∧ (0 : Int) ≤ ((b.length + 2 : Nat) : Int) ∧ ((b.length + 2 : Nat) : Int) < (c.length : Int) ∧ (0 : Int) ≤ ((b.length + 3 : Nat) : Int) ∧ ((b.length + 3 : Nat) : Int) < (c.length : Int) ∧ (b.length : Int) ≤ (c.length : Int) := by omega
theorem CrcSealed : halftonelaw03_CrcSealed.Pure := by
  intro b a y _ h1 h2 h3 h4
  have hb := Bytes.of h2
  have ha := wf_u16 h3
  have hy := wf_u32 h4
  clear h1 h2 h3 h4
  unfold halftonelaw03_CrcSealed.f halftonelaw03_fixed.f
  by_cases g1 : (b.length : Int) > 2000
  · exact ⟨0, by rw [Option.bind_some, if_pos rfl, if_pos g1]⟩
  have lb : b.length ≤ 2000 := by omega
  obtain ⟨s, hs⟩ : ∃ s, moreN 0 b = s := ⟨_, rfl⟩
  have hall : Bytes (b ++ four s) := hb.app (four_bytes s)
  have hlen : (b ++ four s).length = b.length + 4 := by rw [List.length_append]; rfl
  obtain ⟨t, ht, htl⟩ : ∃ t : Nat, Int.tmod (wrap64 a) (wrap64 (8 * ((b ++ four s).length : Int))) = t ∧ t < 8 * (b ++ four s).length := by
    rw [hlen]
    rw [show wrap64 a = a by unfold wrap64; omega, show wrap64 (8 * ((b.length + 4 : Nat) : Int)) = 8 * (b.length + 4 : Nat) by unfold wrap64; omega, Int.tmod_eq_emod_of_nonneg ha.1]
    have p1 := Int.emod_nonneg a (show (8 * (b.length + 4 : Nat) : Int) ≠ 0 by omega)
    have p2 := Int.emod_lt_of_pos a (show (0 : Int) < 8 * (b.length + 4 : Nat) by omega)
    exact ⟨(a % (8 * (b.length + 4 : Nat))).toNat, by omega, by omega⟩
  obtain ⟨c, ⟨K1, e1⟩, hn, hc, hcl⟩ := ev_turned (b ++ four s) hall (by omega) t htl y hy.1 hy.2
  rw [hlen] at hcl
  have htk : Bytes (c.take b.length) := fun x hx => hc x (List.mem_of_mem_take hx)
  obtain ⟨K2, e2⟩ := ev_of [b] (fun p hp => by rw [List.mem_singleton.1 hp]; exact hb) (fun p hp => by rw [List.mem_singleton.1 hp]; omega) (by rw [List.length_singleton]; omega)
  obtain ⟨K3, e3⟩ := ev_of [c.take b.length] (fun p hp => by rw [List.mem_singleton.1 hp]; exact htk) (fun p hp => by rw [List.mem_singleton.1 hp, List.length_take]; omega) (by rw [List.length_singleton]; omega)
  obtain ⟨K, hK⟩ : ∃ K, K1 + K2 + K3 = K := ⟨_, rfl⟩
  have f1 : halftonelaw03_Turned.f K (b ++ four s) t y = some c := e1 K (by omega)
  have f2 : crc_Of.f K [b] = some s := by have := e2 K (by omega); rw [List.flatten_cons, List.flatten_nil, List.append_nil, hs] at this; exact this
  have f3 : crc_Of.f K [c.take b.length] = some (moreN 0 (c.take b.length)) := by have := e3 K (by omega); rw [List.flatten_cons, List.flatten_nil, List.append_nil] at this; exact this
  clear e1 e2 e3
  refine ⟨K, ?_⟩
  rw [Option.bind_some, if_pos rfl, if_neg g1, f2, Option.bind_some, Option.bind_some]
  rw [if_pos (by rw [List.length_nil]; omega), Option.bind_some, Option.bind_some]
  rw [if_pos (by show ([] ++ b).length + 4 < _; rw [List.nil_append]; omega), Option.bind_some]
  rw [show [] ++ b ++ [s % 256, s / 256 % 256, s / 65536 % 256, s / 16777216 % 256] = b ++ four s from rfl]
  rw [if_neg (by rw [hlen]; unfold wrap64; omega), ht, f1, Option.bind_some]
  have w1 : wrap64 ((b.length : Int) + 1) = ((b.length + 1 : Nat) : Int) := wrap_three b.length 1 lb (by decide)
  have w2 : wrap64 ((b.length : Int) + 2) = ((b.length + 2 : Nat) : Int) := wrap_three b.length 2 lb (by decide)
  have w3 : wrap64 ((b.length : Int) + 3) = ((b.length + 3 : Nat) : Int) := wrap_three b.length 3 lb (by decide)
  obtain ⟨b0, b1, b2, b3, b4, b5, b6, b7, b8⟩ := lens b c hcl
  rw [w1, w2, w3, if_pos b0, if_pos b1, if_pos b2, if_pos b3, if_pos b4, if_pos b5, if_pos b6, if_pos b7]
  rw [same_eq hall hc, Option.bind_some, if_pos b8, Int.toNat_natCast, f3, Option.bind_some]
  have q0 : b.length < c.length := by rw [hcl]; exact Nat.lt_add_of_pos_right (by decide)
  have q1 : b.length + 1 < c.length := by rw [hcl]; exact Nat.add_lt_add_left (by decide) _
  have q2 : b.length + 2 < c.length := by rw [hcl]; exact Nat.add_lt_add_left (by decide) _
  have q3 : b.length + 3 < c.length := by rw [hcl]; exact Nat.add_lt_add_left (by decide) _
  rw [rd_nat q0, rd_nat q1, rd_nat q2, rd_nat q3]
  rw [or_four (hc _ (List.getElem_mem _)) (hc _ (List.getElem_mem _)) (hc _ (List.getElem_mem _)) (hc _ (List.getElem_mem _))]
  rw [Option.some.injEq, beq_iff_eq, Bool.eq_iff_iff, decide_eq_true_iff, beq_iff_eq]
  have hi := sealed_iff b c b.length hc hcl
  rw [hs] at hi
  constructor
  · intro h
    refine hi.2 ?_
    rw [h]
  · intro h
    exact burst_shows _ c hall hc t hn _ (hi.1 h)
end Go.Proofs.Yteeahkioeabmoaa.Lib
