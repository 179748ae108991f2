/- The sum of bytes as a plain function on a register of 32 bits. -/
import Derived.Test.YtapaodagnpaekaaF0
namespace Go.Proofs.Ytapaodagnpaekaa.Lib
open Go.RowKit Go.Proofs.YtapaodagnpaekaaW.PrintWords Go.Proofs.YtapaodagnpaekaaW.PrintLast Go.Proofs.YtapaodagnpaekaaW.PrintMore

/-! plain words -/
def Bytes (l : List Int) : Prop := ∀ x ∈ l, 0 ≤ x ∧ x ≤ 255
theorem wf_u8 {x : Int} (h : (Lit.int .u8 x).wf = true) : 0 ≤ x ∧ x ≤ 255 := by
  simp [Lit.wf, IntKind.min, IntKind.max, IntKind.signed, IntKind.bits] at h; omega
theorem wf_u32 {x : Int} (h : (Lit.int .u32 x).wf = true) : 0 ≤ x ∧ x < 4294967296 := by
  simp [Lit.wf, IntKind.min, IntKind.max, IntKind.signed, IntKind.bits] at h; omega
theorem wf_u16 {x : Int} (h : (Lit.int .u16 x).wf = true) : 0 ≤ x ∧ x < 65536 := by
  simp [Lit.wf, IntKind.min, IntKind.max, IntKind.signed, IntKind.bits] at h; omega
theorem Bytes.of {l : List Int} (h : ∀ x ∈ l, (Lit.int .u8 x).wf = true) : Bytes l := fun x hx => wf_u8 (h x hx)
theorem Bytes.cons {c : Int} {l : List Int} (h : Bytes (c :: l)) : (0 ≤ c ∧ c ≤ 255) ∧ Bytes l := ⟨h c (by simp), fun x hx => h x (by simp [hx])⟩
theorem Bytes.app {a b : List Int} (ha : Bytes a) (hb : Bytes b) : Bytes (a ++ b) := fun x hx => (List.mem_append.1 hx).elim (ha x) (hb x)

/-! the register -/
abbrev W32 := BitVec 32
def poly : W32 := 0xedb88320#32
def step (x : W32) : W32 := (x >>> 1) ^^^ (if x.getLsbD 0 then poly else 0#32)
def stepN : Nat → W32 → W32
  | 0, x => x
  | n + 1, x => stepN n (step x)
def num (x : W32) : Int := (x.toNat : Int)
def reg (c : Int) : W32 := BitVec.ofInt 32 c
def run : W32 → List Int → W32
  | x, [] => x
  | x, c :: l => run (stepN 8 (x ^^^ reg c)) l

theorem num_range (x : W32) : 0 ≤ num x ∧ num x < 4294967296 := by
  have := x.isLt; unfold num; omega
theorem reg_num (x : W32) : reg (num x) = x := by unfold reg num; simp
theorem num_reg {a : Int} (h0 : 0 ≤ a) (h1 : a < 4294967296) : num (reg a) = a := by
  unfold num reg; rw [BitVec.toNat_ofInt]; omega
theorem num_inj {x y : W32} (h : num x = num y) : x = y := by rw [← reg_num x, h, reg_num]
theorem wrap_num (x : W32) : IntKind.u32.wrap (num x) = num x := by have := num_range x; rw [IntKind.wrap_u32]; omega
theorem bits_xor (x y : W32) : Go.bits .xor .u32 (num x) (num y) = num (x ^^^ y) := by
  have hx : BitVec.ofInt (IntKind.u32.bits) (num x) = x := reg_num x
  have hy : BitVec.ofInt (IntKind.u32.bits) (num y) = y := reg_num y
  unfold Go.bits; simp only [hx, hy]; exact wrap_num (x ^^^ y)
theorem bits_and (x y : W32) : Go.bits .and .u32 (num x) (num y) = num (x &&& y) := by
  have hx : BitVec.ofInt (IntKind.u32.bits) (num x) = x := reg_num x
  have hy : BitVec.ofInt (IntKind.u32.bits) (num y) = y := reg_num y
  unfold Go.bits; simp only [hx, hy]; exact wrap_num (x &&& y)
theorem half_num (x : W32) : (num x : Int) / (2 : Int) = num (x >>> (1 : Nat)) := by
  unfold num; rw [BitVec.toNat_ushiftRight, Nat.shiftRight_eq_div_pow]; omega
theorem low_num (x : W32) : Go.bits .and .u32 (num x) 1 = if x.getLsbD 0 then 1 else 0 := by
  have h1 : (1 : Int) = num 1#32 := rfl
  rw [h1, bits_and]
  have : x &&& 1#32 = if x.getLsbD 0 then 1#32 else 0#32 := by
    apply BitVec.eq_of_getLsbD_eq
    intro i hi
    cases i with
    | zero => cases h : x.getLsbD 0 <;> simp_all
    | succ i => cases h : x.getLsbD 0 <;> simp [BitVec.getLsbD_one]
  rw [this]; split <;> rfl
theorem step_num (x : W32) : Go.bits .xor .u32 (num x / 2) (Go.bits .and .u32 3988292384 ((-(Go.bits .and .u32 (num x) 1)) % 4294967296)) = num (step x) := by
  rw [low_num, half_num]
  have hp : (3988292384 : Int) = num poly := rfl
  have hz : (-(if x.getLsbD 0 then (1 : Int) else 0)) % 4294967296 = num (if x.getLsbD 0 then BitVec.allOnes 32 else 0#32) := by
    split <;> rfl
  rw [hz, hp, bits_and, bits_xor]
  congr 1
  unfold step
  congr 1
  split
  · decide
  · decide
theorem reg_byte {c : Int} (h : 0 ≤ c ∧ c ≤ 255) : c % 4294967296 = num (reg c) := by rw [num_reg (by omega) (by omega)]; omega

theorem ones_xor (x : W32) : BitVec.allOnes 32 ^^^ x = ~~~x := by
  apply BitVec.eq_of_getLsbD_eq
  intro i hi
  rw [BitVec.getLsbD_xor, BitVec.getLsbD_allOnes, BitVec.getLsbD_not]
  simp [hi]
/-! the program's loops -/
theorem rd_nat {l : List Int} {i : Nat} (h : i < l.length) : rd l (i : Int) = l[i] := by unfold rd; simp [h]
theorem wrap_nat {i : Nat} (h : i < 9223372036854775807) : wrap64 ((i : Int) + 1) = ((i + 1 : Nat) : Int) := by unfold wrap64; omega
theorem more_l1 (l : List Int) (n i : Int) (d : Nat) : ∀ (k j : Nat) (x : W32), j + d = 8 → d < k → crc_More.l1 k (num x) l n i j = crc_More.l0 (k - d - 1) (num (stepN d x)) l n (wrap64 (i + 1)) := by
  induction d with
  | zero =>
    intro k j x hj hk
    obtain ⟨k, rfl⟩ : ∃ m, k = m + 1 := ⟨k - 1, by omega⟩
    rw [crc_More.l1, if_neg (by omega)]; rfl
  | succ d ih =>
    intro k j x hj hk
    obtain ⟨k, rfl⟩ : ∃ m, k = m + 1 := ⟨k - 1, by omega⟩
    rw [crc_More.l1, if_pos (by omega), step_num, wrap_nat (by omega), ih k (j + 1) (step x) (by omega) (by omega)]
    rw [show k - d - 1 = k + 1 - (d + 1) - 1 by omega]; rfl
theorem more_l0 (l : List Int) (hl : Bytes l) (hn : l.length < 9223372036854775807) (d : Nat) : ∀ (k i : Nat) (x : W32), i + d = l.length → 10 * d < k →
    crc_More.l0 k (num x) l l.length i = some (num (~~~ (run x (l.drop i)))) := by
  induction d with
  | zero =>
    intro k i x hi hk
    obtain ⟨k, rfl⟩ : ∃ m, k = m + 1 := ⟨k - 1, by omega⟩
    rw [crc_More.l0, if_neg (by omega), List.drop_of_length_le (by omega)]
    have h1 : (4294967295 : Int) = num (BitVec.allOnes 32) := rfl
    rw [h1, bits_xor, ones_xor]
    rfl
  | succ d ih =>
    intro k i x hi hk
    obtain ⟨k, rfl⟩ : ∃ m, k = m + 1 := ⟨k - 1, by omega⟩
    have hlt : i < l.length := by omega
    have hc := hl l[i] (List.getElem_mem hlt)
    rw [crc_More.l0, if_pos (by omega), if_pos (by omega), if_pos (by omega), rd_nat hlt, reg_byte hc, bits_xor]
    have := more_l1 l l.length i 8 k 0 (x ^^^ reg l[i]) (by omega) (by omega)
    simp only [Int.cast_ofNat_Int] at this
    rw [this, wrap_nat (by omega), ih _ (i + 1) _ (by omega) (by omega), List.drop_eq_getElem_cons hlt]
    rfl
theorem rounds_of {α : Type} {g : Nat → Option α} {r : α} (hg : ∀ k, LeO (g k) (g (k + 1))) (h : ∃ k, g k = some r) : Ev g r := h.elim fun _ hk => Ev.of hg hk
/-- the sum behind a sum -/
def moreN (a : Int) (l : List Int) : Int := num (~~~ (run (~~~ (reg a)) l))
theorem ev_more (a : Int) (l : List Int) (h0 : 0 ≤ a) (h1 : a < 4294967296) (hl : Bytes l) (hn : l.length < 9223372036854775807) : Ev (fun k => crc_More.f k a l) (moreN a l) := by
  refine rounds_of (crc_More.mono a l) ⟨10 * l.length + 1, ?_⟩
  unfold crc_More.f moreN
  have h2 : (4294967295 : Int) = num (BitVec.allOnes 32) := rfl
  have h3 : a = num (reg a) := (num_reg h0 h1).symm
  conv => lhs; rw [h3, h2, bits_xor]
  have := more_l0 l hl hn l.length (10 * l.length + 1) 0 (BitVec.allOnes 32 ^^^ reg a) (by omega) (by omega)
  simp only [Int.cast_ofNat_Int, List.drop_zero] at this
  rw [this, ones_xor]
theorem moreN_range (a : Int) (l : List Int) : 0 ≤ moreN a l ∧ moreN a l < 4294967296 := num_range _
theorem run_app (a b : List Int) : ∀ x, run x (a ++ b) = run (run x a) b := by
  induction a with
  | nil => intro x; rfl
  | cons c a ih => intro x; exact ih _
theorem moreN_app (s : Int) (a b : List Int) : moreN (moreN s a) b = moreN s (a ++ b) := by
  unfold moreN; rw [reg_num, run_app]; simp
/-- the sum of parts -/
theorem of_runs (ps : List (List Int)) (hb : ∀ p ∈ ps, Bytes p) (hs : ∀ p ∈ ps, p.length < 9223372036854775807) (hn : ps.length < 9223372036854775807) (d : Nat) : ∀ (i : Nat) (s : Int), 0 ≤ s → s < 4294967296 → i + d = ps.length →
    Ev (fun k => crc_Of.l0 k s ps ps.length i) (moreN s (ps.drop i).flatten) := by
  induction d with
  | zero =>
    intro i s h0 h1 hi
    refine ⟨1, fun k hk => ?_⟩
    obtain ⟨k, rfl⟩ : ∃ m, k = m + 1 := ⟨k - 1, by omega⟩
    show crc_Of.l0 (k + 1) _ _ _ _ = _
    rw [crc_Of.l0, if_neg (by omega), List.drop_of_length_le (by omega)]
    unfold moreN; simp [run, num_reg h0 h1]
  | succ d ih =>
    intro i s h0 h1 hi
    have hlt : i < ps.length := by omega
    have hrd : rd_L1 ps (i : Int) = ps[i] := by unfold rd_L1; simp [hlt]
    obtain ⟨K1, e1⟩ := ev_more s ps[i] h0 h1 (hb _ (List.getElem_mem hlt)) (hs _ (List.getElem_mem hlt))
    have hr := moreN_range s ps[i]
    obtain ⟨K2, e2⟩ := ih (i + 1) (moreN s ps[i]) hr.1 hr.2 (by omega)
    refine ⟨K1 + K2 + 1, fun k hk => ?_⟩
    obtain ⟨k, rfl⟩ : ∃ m, k = m + 1 := ⟨k - 1, by omega⟩
    have f1 : crc_More.f k s ps[i] = _ := e1 k (by omega)
    have f2 : crc_Of.l0 k _ _ _ _ = _ := e2 k (by omega)
    show crc_Of.l0 (k + 1) _ _ _ _ = _
    rw [crc_Of.l0, if_pos (by omega), if_pos (by omega), if_pos (by omega), hrd, f1]
    simp only [Option.bind_some]
    rw [wrap_nat (by omega), f2, moreN_app, List.drop_eq_getElem_cons hlt, List.flatten_cons]
theorem ev_of (ps : List (List Int)) (hb : ∀ p ∈ ps, Bytes p) (hs : ∀ p ∈ ps, p.length < 9223372036854775807) (hn : ps.length < 9223372036854775807) : Ev (fun k => crc_Of.f k ps) (moreN 0 ps.flatten) :=
  of_runs ps hb hs hn ps.length 0 0 (by omega) (by omega) (by omega)

/-! the reference's loops -/
theorem tstep (x : W32) : (if Int.tmod (num x) 2 = 1 then Go.bits .xor .u32 ((Int.tdiv (num x) 2) % 4294967296) 3988292384 else (Int.tdiv (num x) 2) % 4294967296) = num (step x) := by
  have hr := num_range x
  rw [Int.tmod_eq_emod_of_nonneg hr.1, Int.tdiv_eq_ediv_of_nonneg hr.1, Int.emod_eq_of_lt (a := num x / 2) (by omega) (by omega), half_num]
  have hl : num x % 2 = if x.getLsbD 0 then 1 else 0 := by
    unfold num
    have e : x.getLsbD 0 = decide (x.toNat % 2 = 1) := by simp [BitVec.getLsbD, Nat.testBit_zero]
    rw [e]; by_cases h : x.toNat % 2 = 1 <;> simp [h] <;> omega
  rw [hl]
  unfold step
  have hp : (3988292384 : Int) = num poly := rfl
  cases h : x.getLsbD 0
  · simp
  · simp only [if_true]; rw [hp, bits_xor]
theorem not_num (x : W32) : (4294967295 - num x) % 4294967296 = num (~~~x) := by
  unfold num; rw [BitVec.toNat_not]; have := x.isLt; omega
theorem ref_l1 (l : List Int) (i : Int) (d : Nat) : ∀ (k j : Nat) (x : W32), j + d = 8 → d < k → halftoneref03_More.l1 k l (num x) i j = halftoneref03_More.l0 (k - d - 1) l (num (stepN d x)) (wrap64 (i + 1)) := by
  induction d with
  | zero =>
    intro k j x hj hk
    obtain ⟨k, rfl⟩ : ∃ m, k = m + 1 := ⟨k - 1, by omega⟩
    rw [halftoneref03_More.l1, if_neg (by omega)]; rfl
  | succ d ih =>
    intro k j x hj hk
    obtain ⟨k, rfl⟩ : ∃ m, k = m + 1 := ⟨k - 1, by omega⟩
    have e := tstep x
    have e2 := ih k (j + 1) (step x) (by omega) (by omega)
    rw [halftoneref03_More.l1, if_pos (by omega), wrap_nat (by omega)]
    rw [show k + 1 - (d + 1) - 1 = k - d - 1 by omega]
    by_cases h : Int.tmod (num x) 2 = 1
    · rw [if_pos h] at e ⊢; rw [e, e2]; rfl
    · rw [if_neg h] at e ⊢; rw [e, e2]; rfl
theorem ref_l0 (l : List Int) (hl : Bytes l) (hn : l.length < 9223372036854775807) (d : Nat) : ∀ (k i : Nat) (x : W32), i + d = l.length → 10 * d < k →
    halftoneref03_More.l0 k l (num x) i = some (num (~~~ (run x (l.drop i)))) := by
  induction d with
  | zero =>
    intro k i x hi hk
    obtain ⟨k, rfl⟩ : ∃ m, k = m + 1 := ⟨k - 1, by omega⟩
    rw [halftoneref03_More.l0, if_neg (by omega), List.drop_of_length_le (by omega), not_num]
    rfl
  | succ d ih =>
    intro k i x hi hk
    obtain ⟨k, rfl⟩ : ∃ m, k = m + 1 := ⟨k - 1, by omega⟩
    have hlt : i < l.length := by omega
    have hc := hl l[i] (List.getElem_mem hlt)
    rw [halftoneref03_More.l0, if_pos (by omega), if_pos (by omega), rd_nat hlt, reg_byte hc, bits_xor]
    have := ref_l1 l i 8 k 0 (x ^^^ reg l[i]) (by omega) (by omega)
    simp only [Int.cast_ofNat_Int] at this
    rw [this, wrap_nat (by omega), ih _ (i + 1) _ (by omega) (by omega), List.drop_eq_getElem_cons hlt]
    rfl
theorem ev_rmore (a : Int) (l : List Int) (h0 : 0 ≤ a) (h1 : a < 4294967296) (hl : Bytes l) (hn : l.length < 9223372036854775807) : Ev (fun k => halftoneref03_More.f k a l) (moreN a l) := by
  refine rounds_of (halftoneref03_More.mono a l) ⟨10 * l.length + 1, ?_⟩
  unfold halftoneref03_More.f moreN
  have h3 : a = num (reg a) := (num_reg h0 h1).symm
  conv => lhs; rw [h3, not_num]
  have := ref_l0 l hl hn l.length (10 * l.length + 1) 0 (~~~ reg a) (by omega) (by omega)
  simp only [Int.cast_ofNat_Int, List.drop_zero] at this
  rw [this]
theorem ev_rof (l : List Int) (hl : Bytes l) (hn : l.length < 9223372036854775807) : Ev (fun k => halftoneref03_Of.f k l) (moreN 0 l) := by
  obtain ⟨K, h⟩ := ev_rmore 0 l (by omega) (by omega) hl hn
  exact ⟨K, fun k hk => by have e : halftoneref03_More.f k 0 l = _ := h k hk; show halftoneref03_Of.f k l = _; unfold halftoneref03_Of.f; rw [e]; rfl⟩
theorem toNats_inj : ∀ {a b : List Int}, Bytes a → Bytes b → (a.map fun n => UInt8.ofNat n.toNat) = (b.map fun n => UInt8.ofNat n.toNat) → a = b
  | [], [], _, _, _ => rfl
  | [], _ :: _, _, _, h => by simp at h
  | _ :: _, [], _, _, h => by simp at h
  | x :: a, y :: b, ha, hb, h => by
    obtain ⟨hx, ha⟩ := ha.cons
    obtain ⟨hy, hb⟩ := hb.cons
    simp only [List.map_cons, List.cons.injEq] at h
    have e : x.toNat = y.toNat := by
      have := congrArg UInt8.toNat h.1
      simp only [UInt8.toNat_ofNat'] at this
      omega
    rw [toNats_inj ha hb h.2, show x = y by omega]
theorem same_eq {a b : List Int} (ha : Bytes a) (hb : Bytes b) : halftoneref01_Same.f a b = some (decide (a = b)) := by
  unfold halftoneref01_Same.f
  congr 1
  rw [Bool.eq_iff_iff, beq_iff_eq, decide_eq_true_iff]
  rw [ByteArray.toList_eq, ByteArray.toList_eq]
  exact ⟨fun h => toNats_inj ha hb h, fun h => by rw [h]⟩

end Go.Proofs.Ytapaodagnpaekaa.Lib
