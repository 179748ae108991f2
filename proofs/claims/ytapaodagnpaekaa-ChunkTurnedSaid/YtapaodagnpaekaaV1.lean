/- the callees of chunk, by what they tell; PutBig walked by hand. -/
import Derived.Test.YtapaodagnpaekaaG
namespace Go.Proofs.Ytapaodagnpaekaa.Lib
open Go.RowKit Go.Proofs.YtapaodagnpaekaaW.PrintWords Go.Proofs.YtapaodagnpaekaaW.PrintLast Go.Proofs.YtapaodagnpaekaaW.PrintMore
theorem max2_mx (k k' : IntKind) (x y : Int) : Builtin.max2 (.int k x) (.int k' y) = pure (.int k (mx x y)) := max2_int k k' x y
theorem min2_mn (k k' : IntKind) (x y : Int) : Builtin.min2 (.int k x) (.int k' y) = pure (.int k (mn x y)) := min2_int k k' x y
attribute [local go_sem] max2_mx min2_mn max_two min_two
set_option linter.unusedVariables false
set_option linter.unusedSimpArgs false
theorem wrap64_in' {x : Int} (h1 : -9223372036854775808 ≤ x) (h2 : x ≤ 9223372036854775807) : wrap64 x = x := by unfold wrap64; omega
/-- four bytes of a number, the highest first -/
def be4 (v : Int) : List Int := [v / 16777216 % 256, v / 65536 % 256, v / 256 % 256, v % 256]
theorem be4_bytes (v : Int) : Bytes (be4 v) := fun x hx => by
  simp [be4] at hx
  rcases hx with rfl | rfl | rfl | rfl <;> omega
theorem be4_length (v : Int) : (be4 v).length = 4 := rfl
/-- is it a letter? -/
def letB (c : Int) : Bool := decide (97 ≤ Go.bits .or .u8 c 32 ∧ Go.bits .or .u8 c 32 ≤ 122)
theorem named_l0 (l : List Int) (hn : l.length < 9223372036854775807) : ∀ (d i : Nat), i + d = l.length → ∀ k, d < k → chunk_named.l0 k l (l.length : Int) (i : Int) = some ((l.drop i).all letB)
  | 0, i, h, k + 1, _ => by
    rw [chunk_named.l0, if_neg (by omega), List.drop_eq_nil_of_le (by omega)]
    rfl
  | d + 1, i, h, k + 1, hk => by
    have hi : i < l.length := by omega
    rw [chunk_named.l0, if_pos (by omega), if_pos (by omega), if_pos (by omega), rd_nat hi, List.drop_eq_getElem_cons hi, List.all_cons, wrap_nat (by omega)]
    by_cases h1 : Go.bits .or .u8 l[i] 32 < 97
    · rw [if_pos h1]
      have : letB l[i] = false := decide_eq_false (by omega)
      rw [this]
      rfl
    · rw [if_neg h1]
      by_cases h2 : Go.bits .or .u8 l[i] 32 > 122
      · rw [if_pos h2]
        have : letB l[i] = false := decide_eq_false (by omega)
        rw [this]
        rfl
      · rw [if_neg h2, named_l0 l hn d (i + 1) (by omega) k (by omega)]
        have : letB l[i] = true := decide_eq_true (by omega)
        rw [this]
        rfl
theorem named_any (A : Option Addr) (n c : Nat) (l : List Int) (w : World) (hl : l.length = n) (hC : Kd.C (Kd.int .u8) w A n l) (hc : n ≤ c) (hs : n ≤ 1048576) :
    Calls Try.prog 23 #[.slice A n c] w fun e w' => e = .returned (.bool (l.all letB)) ∧ Drawn0 w w' := by
  subst hl
  exact chunk_named.calls (l.length + 1) A c l _ w hC hc (by
    have := named_l0 l (by omega) l.length 0 (by omega) (l.length + 1) (by omega)
    simpa [chunk_named.f] using this)
theorem more_any (a : Int) (A : Option Addr) (n c : Nat) (l : List Int) (w : World) (ha : 0 ≤ a ∧ a < 4294967296) (hb : Bytes l) (hl : l.length = n) (hC : Kd.C (Kd.int .u8) w A n l) (hc : n ≤ c) (hs : n < 9223372036854775807) :
    Calls Try.prog 25 #[.int .u32 a, .slice A n c] w fun e w' => e = .returned (.int .u32 (moreN a l)) ∧ Drawn0 w w' := by
  subst hl
  obtain ⟨k, hk⟩ := (ev_more a l ha.1 ha.2 hb hs).rounds
  exact crc_More.calls k a A c l _ w hC hc hk
theorem of_any (A : Option Addr) (n c : Nat) (ps : List (List Int)) (w : World) (hb : ∀ p ∈ ps, Bytes p) (hs : ∀ p ∈ ps, p.length < 9223372036854775807) (hl : ps.length = n) (hn : n < 9223372036854775807) (hC : Kd.C (Kd.slice 5 (Kd.int .u8)) w A n ps) (hc : n ≤ c) :
    Calls Try.prog 24 #[.slice A n c] w fun e w' => e = .returned (.int .u32 (moreN 0 ps.flatten)) ∧ Drawn0 w w' := by
  subst hl
  obtain ⟨k, hk⟩ := (ev_of ps hb hs hn).rounds
  exact crc_Of.calls k A c ps _ w hC hc hk
/-- a number of four bytes, the highest first -/
def beN : List Int → Int
  | [a, b, c, d] => ((a * 256 + b) * 256 + c) * 256 + d
  | _ => 0
theorem or_byte (v b : Int) (hv : 0 ≤ v ∧ v < 1099511627776) (hb : 0 ≤ b ∧ b ≤ 255) : Go.bits .or .i64 (v * 256) b = v * 256 + b := by
  obtain ⟨v, rfl⟩ : ∃ x : Nat, v = x := ⟨v.toNat, by omega⟩
  obtain ⟨b, rfl⟩ : ∃ x : Nat, b = x := ⟨b.toNat, by omega⟩
  have e : (v * 256 ||| b) = v * 256 + b := by
    have h := Nat.two_pow_add_eq_or_of_lt (i := 8) (b := b) (by omega) v
    rw [Nat.mul_comm] at h
    exact h.symm
  show IntKind.i64.wrap (BitVec.ofInt 64 ((v : Int) * 256) ||| BitVec.ofInt 64 (b : Int)).toNat = _
  have e0 : (v : Int) * 256 = ((v * 256 : Nat) : Int) := by omega
  rw [e0, BitVec.ofInt_natCast, BitVec.ofInt_natCast, BitVec.toNat_or, BitVec.toNat_ofNat, BitVec.toNat_ofNat, Nat.mod_eq_of_lt (by omega), Nat.mod_eq_of_lt (by omega), e, wrapI (by omega) (by omega)]
  omega
theorem big_step (l : List Int) (i : Nat) (v : Int) (k : Nat) (hi : i < 4) (hl : l.length = 4) (hb : Bytes l) (hv : 0 ≤ v ∧ v < 16777216) : octets_Big.l0 (k + 1) l 0 4 0 v (i : Int) = octets_Big.l0 k l 0 4 0 (v * 256 + l.getD i 0) ((i + 1 : Nat) : Int) := by
  have hx : rd l (i : Int) = l.getD i 0 := by unfold rd; rw [Int.toNat_natCast]
  have hy : 0 ≤ l.getD i 0 ∧ l.getD i 0 ≤ 255 := by
    rw [List.getD_eq_getElem?_getD, List.getElem?_eq_getElem (by omega)]
    exact hb _ (List.getElem_mem _)
  have z : wrap64 (0 + (i : Int)) = (i : Int) := by rw [Int.zero_add]; exact wrap64_in' (by omega) (by omega)
  rw [octets_Big.l0, if_pos rfl, if_pos (by omega), z, if_pos (by omega), if_pos (by omega), hx]
  generalize l.getD i 0 = y at hy ⊢
  rw [wrap64_in' (x := y) (by omega) (by omega), wrap64_in' (x := v * 256) (by omega) (by omega), or_byte v y (by omega) hy, wrap_nat (by omega)]
theorem big_f (a b c d : Int) (ha : 0 ≤ a ∧ a ≤ 255) (hb : 0 ≤ b ∧ b ≤ 255) (hc : 0 ≤ c ∧ c ≤ 255) (hd : 0 ≤ d ∧ d ≤ 255) : octets_Big.f 6 [a, b, c, d] 0 4 = some (beN [a, b, c, d], 0) := by
  have hB : Bytes [a, b, c, d] := fun x hx => by
    simp at hx
    rcases hx with rfl | rfl | rfl | rfl <;> assumption
  have ef : octets_fits.j0 6 [a, b, c, d] 0 4 (decide ((0 : Int) < 0)) = some 0 := by
    have w0 : wrap64 (((4 : Nat) : Int) - 4) = 0 := by rw [wrap64_in' (by omega) (by omega)]; rfl
    rw [octets_fits.j0, if_neg (by decide)]
    show (if (0 : Int) > wrap64 (((4 : Nat) : Int) - 4) then some 2 else some 0) = some 0
    rw [w0, if_neg (by omega)]
  unfold octets_Big.f octets_fits.f
  rw [if_neg (by omega), if_neg (by omega), ef, Option.bind_some]
  refine (show octets_Big.l0 6 [a, b, c, d] 0 4 0 0 0 = octets_Big.l0 5 [a, b, c, d] 0 4 0 (0 * 256 + a) ((1 : Nat) : Int) from big_step [a, b, c, d] 0 0 5 (by omega) rfl hB (by omega)).trans ?_
  rw [Int.zero_mul, Int.zero_add]
  refine (show _ = octets_Big.l0 4 [a, b, c, d] 0 4 0 (a * 256 + b) ((2 : Nat) : Int) from big_step [a, b, c, d] 1 a 4 (by omega) rfl hB (by omega)).trans ?_
  refine (show _ = octets_Big.l0 3 [a, b, c, d] 0 4 0 ((a * 256 + b) * 256 + c) ((3 : Nat) : Int) from big_step [a, b, c, d] 2 (a * 256 + b) 3 (by omega) rfl hB (by omega)).trans ?_
  refine (show _ = octets_Big.l0 2 [a, b, c, d] 0 4 0 (((a * 256 + b) * 256 + c) * 256 + d) ((4 : Nat) : Int) from big_step [a, b, c, d] 3 ((a * 256 + b) * 256 + c) 2 (by omega) rfl hB (by omega)).trans ?_
  rw [octets_Big.l0, if_pos rfl, if_neg (by omega)]
  rfl
theorem four_form {l : List Int} (hl : l.length = 4) : ∃ a b c d, l = [a, b, c, d] := by
  match l, hl with
  | [a, b, c, d], _ => exact ⟨a, b, c, d, rfl⟩
theorem big_f' {l : List Int} (hb : Bytes l) (hl : l.length = 4) : octets_Big.f 6 l 0 4 = some (beN l, 0) := by
  obtain ⟨a, b, c, d, rfl⟩ := four_form hl
  exact big_f a b c d (hb _ (by simp)) (hb _ (by simp)) (hb _ (by simp)) (hb _ (by simp))
theorem big_any (A : Option Addr) (n c : Nat) (l : List Int) (w : World) (hb : Bytes l) (hl : l.length = n) (h4 : n = 4) (hC : Kd.C (Kd.int .u8) w A n l) (hc : n ≤ c) :
    Calls Try.prog 22 #[.slice A n c, .int .i64 0, .int .i64 4] w fun e w' => e = .returned (.tuple #[.int .i64 (beN l), .int .i64 0]) ∧ Drawn0 w w' := by
  subst hl
  exact octets_Big.calls 6 A c l 0 4 (beN l) 0 w hC hc (big_f' hb h4)
theorem beN_range {l : List Int} (hb : Bytes l) (hl : l.length = 4) : 0 ≤ beN l ∧ beN l < 4294967296 := by
  obtain ⟨a, b, c', d, rfl⟩ : ∃ a b c d, l = [a, b, c, d] := by
    match l, hl with
    | [a, b, c, d], _ => exact ⟨a, b, c, d, rfl⟩
  have h1 := hb a (by simp)
  have h2 := hb b (by simp)
  have h3 := hb c' (by simp)
  have h4 := hb d (by simp)
  simp only [beN]
  omega
theorem beN_be4 {v : Int} (h0 : 0 ≤ v) (h1 : v < 4294967296) : beN (be4 v) = v := by
  simp only [beN, be4]
  omega
theorem be4_beN {l : List Int} (hb : Bytes l) (hl : l.length = 4) : be4 (beN l) = l := by
  obtain ⟨a, b, c', d, rfl⟩ : ∃ a b c d, l = [a, b, c, d] := by
    match l, hl with
    | [a, b, c, d], _ => exact ⟨a, b, c, d, rfl⟩
  have h1 := hb a (by simp)
  have h2 := hb b (by simp)
  have h3 := hb c' (by simp)
  have h4 := hb d (by simp)
  simp only [beN, be4]
  congr 1
  · omega
  · congr 1
    · omega
    · congr 1
      · omega
      · congr 1
        omega
theorem lit_row (W : World) (l : List Int) (base : Nat) (hb : base ≤ W.heap.size) (hm : l.length ≤ 9223372036854775807) : Kd.R (Kd.int .u8) 5 (W.alloc (.cells (nums .u8 l).toArray 5)) base (fun _ => True) (.slice (some ⟨W.heap.size, 0, none⟩) l.length l.length) l :=
  Kd.R_of_own (own_lit W base 5 .u8 l hb hm) (fun _ _ => trivial)
set_option maxHeartbeats 4000000 in
set_option maxRecDepth 100000 in
theorem putbig_walk (v : Int) (h0 : 0 ≤ v) (h1 : v < 4294967296) (W : World) :
    Calls Try.prog 29 #[.int .i64 4, .int .i64 v] W fun e w' => ∃ g c, e = .returned (.slice (some ⟨g, 0, none⟩) 4 c) ∧ Kd.R (Kd.int .u8) 5 w' W.heap.size (fun _ => True) (.slice (some ⟨g, 0, none⟩) 4 c) (be4 v) ∧ Below W.heap.size W w' := by
  have e1 : mn 4 8 = 4 := rfl
  have e2 : mx 0 4 = 4 := rfl
  have hmk : ∀ w, (Instr.makeSlice 26 (.int .i64 4) (.int .i64 4)).run Try.prog w = .ok (.slice (some ⟨w.heap.size, 0, none⟩) 4 4) (w.alloc (.cells #[.int .u8 0, .int .u8 0, .int .u8 0, .int .u8 0] 5)) := fun _ => by kernel_rfl
  go_enter Try.func29, Try.ntmps29
  go_wp2
  refine wp_loop_rounds 5 ?_
  rw [rounds_succ]
  go_wp2
  rw [rounds_succ]
  go_wp2
  rw [rounds_succ]
  go_wp2
  rw [rounds_succ]
  go_wp2
  rw [rounds_succ]
  go_wp2
  go_ret
  have e : be4 v = [v / 16777216, v / 65536 % 256, v / 256 % 256, v % 256] := by
    simp only [be4]
    congr 1
    omega
  rw [e]
  exact ⟨W.heap.size, 4, rfl, lit_row W [v / 16777216, v / 65536 % 256, v / 256 % 256, v % 256] _ (Nat.le_refl _) (by simp), (Below.refl _ _).alloc (Nat.le_refl _) _⟩
end Go.Proofs.Ytapaodagnpaekaa.Lib
