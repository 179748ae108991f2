/- Turned, and that a burst shows: what the reference's bits and bytes come to. -/
import Derived.Test.YteeahkioeabmoaaP2
namespace Go.Proofs.Yteeahkioeabmoaa.Lib
open Go.RowKit Go.Proofs.YteeahkioeabmoaaW.PrintWords Go.Proofs.YteeahkioeabmoaaW.PrintLast Go.Proofs.YteeahkioeabmoaaW.PrintMore

theorem bits_l1 (l : List Int) (i : Int) (d : Nat) : ∀ (k j : Nat) (x3 : List Int) (n : Int), j + d = 8 → d < k → 0 ≤ n → n < 256 → x3.length + d ≤ 17592186044416 →
    halftoneref01_Bits.l1 k l x3 i n j = halftoneref01_Bits.l0 (k - d - 1) l (x3 ++ byteBits d n) (wrap64 (i + 1)) := by
  induction d with
  | zero =>
    intro k j x3 n hj hk h0 h1 hx
    obtain ⟨k, rfl⟩ : ∃ m, k = m + 1 := ⟨k - 1, by omega⟩
    rw [halftoneref01_Bits.l1, if_neg (by omega)]; simp [byteBits]
  | succ d ih =>
    intro k j x3 n hj hk h0 h1 hx
    obtain ⟨k, rfl⟩ : ∃ m, k = m + 1 := ⟨k - 1, by omega⟩
    rw [halftoneref01_Bits.l1, if_pos (by omega), if_pos (by omega), Int.tmod_eq_emod_of_nonneg h0, Int.tdiv_eq_ediv_of_nonneg h0]
    rw [show wrap64 (n / 2) = n / 2 by unfold wrap64; omega, wrap_nat (by omega), ih k (j + 1) _ _ (by omega) (by omega) (by omega) (by omega) (by simp; omega)]
    rw [show k + 1 - (d + 1) - 1 = k - d - 1 by omega, List.append_assoc]; rfl
theorem bits_l0 (l : List Int) (hl : Bytes l) (hn : l.length ≤ 1000000) (d : Nat) : ∀ (k i : Nat) (x3 : List Int), i + d = l.length → 10 * d < k → x3.length = 8 * i →
    halftoneref01_Bits.l0 k l x3 i = some (x3 ++ bitsOf (l.drop i)) := by
  induction d with
  | zero =>
    intro k i x3 hi hk hx
    obtain ⟨k, rfl⟩ : ∃ m, k = m + 1 := ⟨k - 1, by omega⟩
    rw [halftoneref01_Bits.l0, if_neg (by omega), List.drop_of_length_le (by omega)]
    simp [bitsOf]
  | succ d ih =>
    intro k i x3 hi hk hx
    obtain ⟨k, rfl⟩ : ∃ m, k = m + 1 := ⟨k - 1, by omega⟩
    have hlt : i < l.length := by omega
    have hc := hl l[i] (List.getElem_mem hlt)
    rw [halftoneref01_Bits.l0, if_pos (by omega), if_pos (by omega), rd_nat hlt, show wrap64 l[i] = l[i] by unfold wrap64; omega]
    have := bits_l1 l i 8 k 0 x3 l[i] (by omega) (by omega) (by omega) (by omega) (by omega)
    simp only [Int.cast_ofNat_Int] at this
    rw [this, wrap_nat (by omega), ih _ (i + 1) _ (by omega) (by omega) (by rw [List.length_append, byteBits_length]; omega), List.drop_eq_getElem_cons hlt, List.append_assoc]
    rfl
theorem ev_bits (l : List Int) (hl : Bytes l) (hn : l.length ≤ 1000000) : Ev (fun k => halftoneref01_Bits.f k l) (bitsOf l) := by
  refine rounds_of (halftoneref01_Bits.mono l) ⟨10 * l.length + 1, ?_⟩
  unfold halftoneref01_Bits.f
  have := bits_l0 l hl hn l.length (10 * l.length + 1) 0 [] (by omega) (by omega) rfl
  simpa using this
theorem number_l0 (l : List Int) (hl : Bits01 l) (hn : l.length ≤ 8) (i : Nat) : ∀ (k : Nat) (n : Int), i ≤ l.length → i < k → 0 ≤ n → n < 2 ^ (l.length - i) →
    halftoneref01_Number.l0 k l n ((i : Int) - 1) = some (numB (l.take i) + 2 ^ i * n) := by
  induction i with
  | zero =>
    intro k n hi hk h0 h1
    obtain ⟨k, rfl⟩ : ∃ m, k = m + 1 := ⟨k - 1, by omega⟩
    rw [halftoneref01_Number.l0, if_neg (by omega)]; simp [numB]
  | succ i ih =>
    intro k n hi hk h0 h1
    obtain ⟨k, rfl⟩ : ∃ m, k = m + 1 := ⟨k - 1, by omega⟩
    have hlt : i < l.length := by omega
    have hc := hl l[i] (List.getElem_mem hlt)
    have h256 : (2 : Int) ^ (l.length - (i + 1)) ≤ 2 ^ 8 := by
      have := Nat.pow_le_pow_right (show 0 < 2 by omega) (show l.length - (i + 1) ≤ 8 by omega)
      exact_mod_cast this
    have h28 : (2 : Int) ^ 8 = 256 := by decide
    rw [halftoneref01_Number.l0, if_pos (by omega), if_pos (by omega), if_pos (by omega), show ((i + 1 : Nat) : Int) - 1 = i by omega, rd_nat hlt]
    rw [show wrap64 (2 * n) = 2 * n by unfold wrap64; omega, show wrap64 (2 * n + l[i]) = 2 * n + l[i] by unfold wrap64; omega, show wrap64 ((i : Int) - 1) = (i : Int) - 1 by unfold wrap64; omega]
    have hp : (2 : Int) ^ (l.length - i) = 2 * 2 ^ (l.length - (i + 1)) := by rw [show l.length - i = (l.length - (i + 1)) + 1 by omega, Int.pow_succ, Int.mul_comm]
    rw [ih k _ (by omega) (by omega) (by omega) (by omega)]
    congr 1
    have ht : ∀ (a : List Int) (v : Int), numB (a ++ [v]) = numB a + 2 ^ a.length * v := by
      intro a v
      induction a with
      | nil => simp [numB]
      | cons c a iha => simp only [List.cons_append, numB, List.length_cons, Int.pow_succ]; rw [iha, Int.mul_add, Int.mul_comm (2 ^ a.length) 2, Int.mul_assoc]; omega
    rw [List.take_succ_eq_append_getElem hlt, ht, List.length_take, Nat.min_eq_left (by omega), Int.pow_succ, Int.mul_add, Int.mul_assoc]
    have : 2 ^ i * (2 * n) = 2 ^ i * (2 * n) := rfl
    omega
theorem ev_number (l : List Int) (hl : Bits01 l) (hn : l.length ≤ 8) : Ev (fun k => halftoneref01_Number.f k l) (numB l) := by
  refine rounds_of (halftoneref01_Number.mono l) ⟨l.length + 1, ?_⟩
  unfold halftoneref01_Number.f
  have := number_l0 l hl hn l.length (l.length + 1) 0 (Nat.le_refl _) (by omega) (by omega) (by simp)
  rw [show wrap64 ((l.length : Int) - 1) = (l.length : Int) - 1 by unfold wrap64; omega, this, List.take_length]
  simp
theorem byteBits_numB (l : List Int) (hl : Bits01 l) : byteBits l.length (numB l) = l := by
  induction l with
  | nil => rfl
  | cons c l ih =>
    obtain ⟨hc, hl⟩ := hl.cons
    have hr := numB_range l hl
    simp only [List.length_cons, byteBits, numB]
    rw [show (c + 2 * numB l) % 2 = c by omega, show (c + 2 * numB l) / 2 = numB l by omega, ih hl]
theorem bytes_l0 (L : List Int) (hL : Bits01 L) (m : Nat) (hm : L.length = 8 * m) (hn : m ≤ 1000000) (d : Nat) : ∀ (i : Nat) (x3 : List Int), i + d = m → x3.length = i → Bytes x3 →
    ∃ c, Ev (fun k => halftoneref01_Bytes.l0 k L x3 ((8 * i : Nat) : Int)) (x3 ++ c) ∧ bitsOf c = L.drop (8 * i) ∧ Bytes c ∧ c.length = d := by
  induction d with
  | zero =>
    intro i x3 hi hx hb
    refine ⟨[], ⟨1, fun k hk => ?_⟩, ?_, fun x hx => by simp at hx, rfl⟩
    · obtain ⟨k, rfl⟩ : ∃ m, k = m + 1 := ⟨k - 1, by omega⟩
      show halftoneref01_Bytes.l0 (k + 1) _ _ _ = _
      rw [halftoneref01_Bytes.l0, if_neg (by omega)]; simp
    · rw [List.drop_of_length_le (by omega)]; rfl
  | succ d ih =>
    intro i x3 hi hx hb
    have hpl : ((L.take (8 * i + 8)).drop (8 * i)).length = 8 := by rw [List.length_drop, List.length_take]; omega
    have hp1 : Bits01 ((L.take (8 * i + 8)).drop (8 * i)) := fun x hx => hL x (List.mem_of_mem_take (List.mem_of_mem_drop hx))
    have hr := numB_range _ hp1
    rw [hpl] at hr
    have h28 : (2 : Int) ^ 8 = 256 := by decide
    obtain ⟨K1, e1⟩ := ev_number _ hp1 (by omega)
    obtain ⟨c, ⟨K2, e2⟩, hc1, hc2, hc3⟩ := ih (i + 1) (x3 ++ [numB ((L.take (8 * i + 8)).drop (8 * i))]) (by omega) (by simp [hx]) (hb.app (fun x hx => by simp at hx; subst hx; omega))
    refine ⟨numB ((L.take (8 * i + 8)).drop (8 * i)) :: c, ⟨K1 + K2 + 1, fun k hk => ?_⟩, ?_, ?_, by simp [hc3]⟩
    · obtain ⟨k, rfl⟩ : ∃ m, k = m + 1 := ⟨k - 1, by omega⟩
      have f1 : halftoneref01_Number.f k _ = _ := e1 k (by omega)
      have f2 : halftoneref01_Bytes.l0 k _ _ _ = _ := e2 k (by omega)
      show halftoneref01_Bytes.l0 (k + 1) _ _ _ = _
      have hmn : mn (wrap64 (((8 * i : Nat) : Int) + 8)) (L.length : Int) = ((8 * i + 8 : Nat) : Int) := by
        rw [show wrap64 (((8 * i : Nat) : Int) + 8) = ((8 * i + 8 : Nat) : Int) by unfold wrap64; omega]
        unfold mn; split <;> omega
      rw [halftoneref01_Bytes.l0, if_pos (by omega), if_pos (by omega), hmn, if_pos (by omega), if_pos (by omega), Int.toNat_natCast, Int.toNat_natCast, f1]
      simp only [Option.bind_some]
      rw [if_pos (by omega), Int.emod_eq_of_lt (by omega) (by omega), show wrap64 (((8 * i : Nat) : Int) + 8) = ((8 * (i + 1) : Nat) : Int) by unfold wrap64; omega, f2]
      simp
    · simp only [bitsOf]
      have := byteBits_numB _ hp1
      rw [hpl] at this
      rw [this, hc1]
      have h3 : L.drop (8 * i) = (L.drop (8 * i)).take 8 ++ (L.drop (8 * i)).drop 8 := (List.take_append_drop 8 _).symm
      conv => rhs; rw [h3]
      rw [List.drop_drop, List.drop_take, show 8 * i + 8 - 8 * i = 8 by omega, show 8 * (i + 1) = 8 * i + 8 by omega]
    · intro x hx
      rcases List.mem_cons.1 hx with rfl | hx
      · omega
      · exact hc2 x hx
theorem ev_bytes (L : List Int) (hL : Bits01 L) (m : Nat) (hm : L.length = 8 * m) (hn : m ≤ 1000000) : ∃ c, Ev (fun k => halftoneref01_Bytes.f k L) c ∧ bitsOf c = L ∧ Bytes c ∧ c.length = m := by
  obtain ⟨c, h1, h2, h3, h4⟩ := bytes_l0 L hL m hm hn m 0 [] (by omega) rfl (fun x hx => by simp at hx)
  exact ⟨c, by simpa [halftoneref01_Bytes.f] using h1, by simpa using h2, h3, h4⟩

/-- what Turned leaves outside its 32 bits -/
def Near (at_ : Nat) (L L' : List Int) : Prop := L'.length = L.length ∧ Bits01 L' ∧ ∀ j, j < at_ ∨ at_ + 32 ≤ j → L'[j]? = L[j]?
theorem xor01 {a b : Int} (ha : a = 0 ∨ a = 1) (hb : b = 0 ∨ b = 1) : Go.bits .xor .i64 a b = 0 ∨ Go.bits .xor .i64 a b = 1 := by
  rcases ha with rfl | rfl <;> rcases hb with rfl | rfl <;> decide
theorem bit01 {x : Int} (h0 : 0 ≤ x) (h1 : x < 4294967296) (i : Nat) (hi : i < 32) : wrap64 (Go.bits .and .u32 (shr .u32 x (i : Int)) 1) = 0 ∨ wrap64 (Go.bits .and .u32 (shr .u32 x (i : Int)) 1) = 1 := by
  have hs : shr .u32 x (i : Int) = num (reg x >>> i) := by
    have hx : x = num (reg x) := (num_reg h0 h1).symm
    rw [hx, reg_num]
    unfold shr num
    rw [show min (i : Int).toNat IntKind.u32.bits = i by simp [IntKind.bits]; omega, BitVec.toNat_ushiftRight, Nat.shiftRight_eq_div_pow]
    simp
  rw [hs, low_num]
  split
  · exact .inr (by unfold wrap64; omega)
  · exact .inl (by unfold wrap64; omega)
theorem turned_l0 (L : List Int) (m : Nat) (hm : L.length = 8 * m) (hn : m ≤ 1000000) (at_ : Nat) (hat : at_ < 8 * m) (y : Int) (hy0 : 0 ≤ y) (hy1 : y < 4294967296) (d : Nat) : ∀ (i : Nat) (X : List Int), i + d = 32 → Near at_ L X →
    ∃ c, Ev (fun k => halftonelaw03_Turned.l0 k at_ y X i) c ∧ Near at_ L (bitsOf c) ∧ Bytes c ∧ c.length = m := by
  induction d with
  | zero =>
    intro i X hi hX
    obtain ⟨c, ⟨K, h1⟩, h2, h3, h4⟩ := ev_bytes X hX.2.1 m (by rw [hX.1, hm]) hn
    refine ⟨c, ⟨K + 1, fun k hk => ?_⟩, by rw [h2]; exact hX, h3, h4⟩
    obtain ⟨k, rfl⟩ : ∃ m, k = m + 1 := ⟨k - 1, by omega⟩
    have f1 : halftoneref01_Bytes.f k X = _ := h1 k (by omega)
    show halftonelaw03_Turned.l0 (k + 1) _ _ _ _ = _
    rw [halftonelaw03_Turned.l0, if_neg (by omega), f1]; rfl
  | succ d ih =>
    intro i X hi hX
    have hw : wrap64 ((at_ : Int) + i) = ((at_ + i : Nat) : Int) := by unfold wrap64; omega
    have hu : IntKind.u64.wrap (i : Int) = i := by simp [IntKind.wrap, IntKind.bits, IntKind.signed]; omega
    by_cases hlt : at_ + i < X.length
    · have hv := xor01 (hX.2.1 X[at_ + i] (List.getElem_mem hlt)) (bit01 hy0 hy1 i (by omega))
      obtain ⟨c, ⟨K, h1⟩, h2⟩ := ih (i + 1) (X.set (at_ + i) (Go.bits .xor .i64 X[at_ + i] (wrap64 (Go.bits .and .u32 (shr .u32 y (i : Int)) 1)))) (by omega) (by
        refine ⟨by rw [List.length_set]; exact hX.1, fun x hx => ?_, fun j hj => ?_⟩
        · rcases List.mem_or_eq_of_mem_set hx with h | h
          · exact hX.2.1 x h
          · subst h; exact hv
        · rw [List.getElem?_set_ne (by omega)]; exact hX.2.2 j hj)
      refine ⟨c, ⟨K + 1, fun k hk => ?_⟩, h2⟩
      obtain ⟨k, rfl⟩ : ∃ m, k = m + 1 := ⟨k - 1, by omega⟩
      have f1 : halftonelaw03_Turned.l0 k _ _ _ _ = _ := h1 k (by omega)
      show halftonelaw03_Turned.l0 (k + 1) _ _ _ _ = _
      rw [halftonelaw03_Turned.l0, if_pos (by omega), hw, if_pos (by omega), if_pos (by omega), hu, if_pos (by omega), Int.toNat_natCast, rd_nat hlt, wrap_nat (by omega), f1]
    · obtain ⟨c, ⟨K, h1⟩, h2⟩ := ih (i + 1) X (by omega) hX
      refine ⟨c, ⟨K + 1, fun k hk => ?_⟩, h2⟩
      obtain ⟨k, rfl⟩ : ∃ m, k = m + 1 := ⟨k - 1, by omega⟩
      have f1 : halftonelaw03_Turned.l0 k _ _ _ _ = _ := h1 k (by omega)
      show halftonelaw03_Turned.l0 (k + 1) _ _ _ _ = _
      rw [halftonelaw03_Turned.l0, if_pos (by omega), hw, if_neg (by omega), wrap_nat (by omega), f1]
theorem ev_turned (b : List Int) (hb : Bytes b) (hn : b.length ≤ 1000000) (at_ : Nat) (hat : at_ < 8 * b.length) (y : Int) (hy0 : 0 ≤ y) (hy1 : y < 4294967296) :
    ∃ c, Ev (fun k => halftonelaw03_Turned.f k b at_ y) c ∧ Near at_ (bitsOf b) (bitsOf c) ∧ Bytes c ∧ c.length = b.length := by
  obtain ⟨K1, e1⟩ := ev_bits b hb hn
  obtain ⟨c, ⟨K2, e2⟩, h⟩ := turned_l0 (bitsOf b) b.length (bitsOf_length b) hn at_ hat y hy0 hy1 32 0 (bitsOf b) (by omega) ⟨rfl, bitsOf_01 b, fun _ _ => rfl⟩
  refine ⟨c, ⟨K1 + K2, fun k hk => ?_⟩, h⟩
  have f1 : halftoneref01_Bits.f k b = _ := e1 k (by omega)
  have f2 : halftonelaw03_Turned.l0 k _ _ _ _ = _ := e2 k (by omega)
  show halftonelaw03_Turned.f k b at_ y = _
  unfold halftonelaw03_Turned.f
  rw [f1]
  exact f2
/-- a burst shows -/
theorem burst_shows (b c : List Int) (hb : Bytes b) (hc : Bytes c) (at_ : Nat) (h : Near at_ (bitsOf b) (bitsOf c)) (x : W32) (hx : run x b = run x c) : b = c := by
  rw [run_bits b hb, run_bits c hc] at hx
  refine bitsOf_inj hb hc ?_
  have hlen : (bitsOf b).length = (bitsOf c).length := h.1.symm
  obtain ⟨D, hD⟩ : ∃ D, List.zipWith xorB (bitsOf b) (bitsOf c) = D := ⟨_, rfl⟩
  have hz : ∀ j, j < at_ ∨ at_ + 32 ≤ j → ∀ v, D[j]? = some v → v = 0 := by
    intro j hj v hv
    have := h.2.2 j hj
    rw [← hD, List.getElem?_zipWith] at hv
    rw [this] at hv
    cases hb' : (bitsOf b)[j]? with
    | none => rw [hb'] at hv; simp at hv
    | some w => rw [hb'] at hv; simp [xorB] at hv; exact hv.symm
  refine burst (bitsOf b) (bitsOf c) (D.take at_) ((D.drop at_).take 32) ((D.drop at_).drop 32) x hlen (bitsOf_01 b) (bitsOf_01 c) ?_ ?_ ?_ (by rw [List.length_take]; omega) hx
  · rw [hD, List.append_assoc, List.take_append_drop, List.take_append_drop]
  · intro v hv
    obtain ⟨j, hj, rfl⟩ := List.mem_iff_getElem.1 hv
    rw [List.length_take] at hj
    exact hz j (by omega) _ (by rw [List.getElem_take]; exact List.getElem?_eq_getElem (by omega))
  · intro v hv
    rw [List.drop_drop] at hv
    obtain ⟨j, hj, rfl⟩ := List.mem_iff_getElem.1 hv
    rw [List.length_drop] at hj
    exact hz (at_ + 32 + j) (by omega) _ (by rw [List.getElem_drop]; exact List.getElem?_eq_getElem (by omega))
end Go.Proofs.Yteeahkioeabmoaa.Lib
