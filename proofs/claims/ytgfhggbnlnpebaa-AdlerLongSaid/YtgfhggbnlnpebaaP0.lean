/- The sums of layer 4 as plain functions on lists of numbers: what the program's and the reference's loops come to, and the three laws AdlerSums, AdlerTogether, AdlerTurned over them. -/
import Derived.Test.YtgfhggbnlnpebaaF2
namespace Go.Proofs.Ytgfhggbnlnpebaa.Lib
open Go.RowKit Go.Proofs.YtgfhggbnlnpebaaW.PrintWords Go.Proofs.YtgfhggbnlnpebaaW.PrintLast

/-! plain words -/
def Bytes (l : List Int) : Prop := ∀ x ∈ l, 0 ≤ x ∧ x ≤ 255
theorem wf_u8 {x : Int} (h : (Lit.int .u8 x).wf = true) : 0 ≤ x ∧ x ≤ 255 := by
  simp [Lit.wf, IntKind.min, IntKind.max, IntKind.signed, IntKind.bits] at h; omega
theorem wf_u32 {x : Int} (h : (Lit.int .u32 x).wf = true) : 0 ≤ x ∧ x < 4294967296 := by
  simp [Lit.wf, IntKind.min, IntKind.max, IntKind.signed, IntKind.bits] at h; omega
theorem wf_u16 {x : Int} (h : (Lit.int .u16 x).wf = true) : 0 ≤ x ∧ x < 65536 := by
  simp [Lit.wf, IntKind.min, IntKind.max, IntKind.signed, IntKind.bits] at h; omega
theorem Bytes.of {l : List Int} (h : ∀ x ∈ l, (Lit.int .u8 x).wf = true) : Bytes l := fun x hx => wf_u8 (h x hx)
theorem Bytes.cons {c : Int} {l : List Int} (h : Bytes (c :: l)) : (0 ≤ c ∧ c ≤ 255) ∧ Bytes l := ⟨h c (by simp), fun x hx => h x (by simp [hx])⟩
theorem Bytes.app {a b : List Int} (ha : Bytes a) (hb : Bytes b) : Bytes (a ++ b) := fun x hx => (List.mem_append.1 hx).elim (ha x) (hb x)
theorem Bytes.take {l : List Int} (h : Bytes l) (n : Nat) : Bytes (l.take n) := fun x hx => h x (List.mem_of_mem_take hx)
theorem Bytes.drop {l : List Int} (h : Bytes l) (n : Nat) : Bytes (l.drop n) := fun x hx => h x (List.mem_of_mem_drop hx)

/-- the sums, reduced at each byte -/
def go : Int → Int → List Int → Int × Int
  | s, t, [] => (s, t)
  | s, t, c :: l => go ((s + c) % 65521) ((t + (s + c) % 65521) % 65521) l
/-- and never reduced -/
def fr : Int → Int → List Int → Int × Int
  | s, t, [] => (s, t)
  | s, t, c :: l => fr (s + c) (t + (s + c)) l
theorem go_fr (l : List Int) : ∀ s t, go (s % 65521) (t % 65521) l = ((fr s t l).1 % 65521, (fr s t l).2 % 65521) := by
  induction l with
  | nil => intro s t; rfl
  | cons c l ih =>
    intro s t
    simp only [go, fr]
    have h1 : (s % 65521 + c) % 65521 = (s + c) % 65521 := by omega
    have h2 : (t % 65521 + (s % 65521 + c) % 65521) % 65521 = (t + (s + c)) % 65521 := by omega
    rw [h1] at h2 ⊢
    rw [h2, ih]
theorem go_app (a b : List Int) : ∀ s t, go s t (a ++ b) = go (go s t a).1 (go s t a).2 b := by
  induction a with
  | nil => intro s t; rfl
  | cons c a ih => intro s t; simp only [List.cons_append, go]; rw [ih]
theorem go_lt (l : List Int) : ∀ s t, 0 ≤ s → s < 65521 → 0 ≤ t → t < 65521 → (0 ≤ (go s t l).1 ∧ (go s t l).1 < 65521) ∧ 0 ≤ (go s t l).2 ∧ (go s t l).2 < 65521 := by
  induction l with
  | nil => intro s t h1 h2 h3 h4; exact ⟨⟨h1, h2⟩, h3, h4⟩
  | cons c l ih => intro s t h1 h2 h3 h4; simp only [go]; exact ih _ _ (by omega) (by omega) (by omega) (by omega)

/-- the number of a pair -/
def num (p : Int × Int) : Int := p.2 * 65536 + p.1
def moreN (a : Int) (l : List Int) : Int := num (go (a % 65536 % 65521) (a / 65536 % 65521) l)
theorem and_low {x : Int} (h0 : 0 ≤ x) (h1 : x < 4294967296) : Go.bits .and .u32 x 65535 = x % 65536 :=
  bits_mask .u32 32 (by decide) (fun n h0 h1 => by rw [IntKind.wrap_u32]; omega) 16 (by decide) x h0 (by simpa using h1)
theorem or_num {s t : Int} (hs : 0 ≤ s ∧ s < 65521) (ht : 0 ≤ t ∧ t < 65521) : Go.bits .or .u32 (t * 65536 % 4294967296) s = t * 65536 + s := by
  rw [Int.emod_eq_of_lt (by omega) (by omega)]
  exact bits_join .u32 32 (by decide) (fun n h0 h1 => by rw [IntKind.wrap_u32]; omega) 16 _ _ (by omega) (by omega) (by omega) (by omega) (by omega) (by omega)
theorem tmod_pos {a : Int} (h : 0 ≤ a) : Int.tmod a 65521 = a % 65521 := Int.tmod_eq_emod_of_nonneg h

/-! the program's loops -/
theorem fr_le (l : List Int) (hl : Bytes l) : ∀ s t, 0 ≤ s → 0 ≤ t → s ≤ (fr s t l).1 ∧ (fr s t l).1 ≤ s + 255 * l.length ∧ t ≤ (fr s t l).2 := by
  induction l with
  | nil => intro s t _ _; simp [fr]
  | cons c l ih =>
    intro s t hs ht
    obtain ⟨hc, hl⟩ := hl.cons
    simp only [fr, List.length_cons]
    obtain ⟨h1, h2, h3⟩ := ih hl (s + c) (t + (s + c)) (by omega) (by omega)
    omega
theorem fr_snoc (l : List Int) (c : Int) : ∀ s t, fr s t (l ++ [c]) = ((fr s t l).1 + c, (fr s t l).2 + ((fr s t l).1 + c)) := by
  induction l with
  | nil => intro s t; rfl
  | cons d l ih => intro s t; simp only [List.cons_append, fr]; rw [ih]

/-- the inner loop: of a part of at most 5000 bytes -/
theorem l1_runs (l0 y : List Int) (x7 : Int) (hy : Bytes y) (h7 : 0 ≤ x7) (h7' : x7 ≤ l0.length) (hn : y.length ≤ 5000) (d : Nat) : ∀ (k i : Nat) (s t : Int), i + d = y.length → d ≤ k →
    0 ≤ s → s ≤ 65520 + 255 * i → 0 ≤ t → 2 * t ≤ 131040 + 131040 * i + 255 * ((i * i : Nat) : Int) + 255 * i →
    adler_More.l1 (k + 1) l0 s t x7 y y.length i = adler_More.l0 (k - d) (l0.drop x7.toNat) ((fr s t (y.drop i)).1 % 65521) ((fr s t (y.drop i)).2 % 65521) := by
  induction d with
  | zero =>
    intro k i s t hi hk hs hs' ht ht'
    rw [adler_More.l1, if_neg (by omega), if_pos h7, if_pos h7', tmod_pos hs, tmod_pos ht, List.drop_of_length_le (l := y) (by omega)]
    rfl
  | succ d ih =>
    intro k i s t hi hk hs hs' ht ht'
    obtain ⟨k, rfl⟩ : ∃ m, k = m + 1 := ⟨k - 1, by omega⟩
    have hlt : i < y.length := by omega
    have hrd : rd y (i : Int) = y[i] := by unfold rd; simp [hlt]
    have hc := hy y[i] (List.getElem_mem hlt)
    rw [adler_More.l1, if_pos (by omega), if_pos (by omega), if_pos (by omega), hrd]
    rw [show wrap64 ((i : Int) + 1) = ((i + 1 : Nat) : Int) by unfold wrap64; omega]
    rw [show y[i] % 4294967296 = y[i] by omega]
    rw [show (s + y[i]) % 4294967296 = s + y[i] by omega]
    have e1 : (i + 1) * (i + 1) = i * i + 2 * i + 1 := by rw [Nat.add_mul, Nat.mul_add]; omega
    have e2 : i * i ≤ 4999 * i := Nat.mul_le_mul_right _ (by omega)
    rw [show (t + (s + y[i])) % 4294967296 = t + (s + y[i]) by omega]
    rw [ih k (i + 1) _ _ (by omega) (by omega) (by omega) (by omega) (by omega) (by omega)]
    rw [List.drop_eq_getElem_cons hlt]
    simp only [fr]
    rw [show k + 1 - (d + 1) = k - d by omega]

theorem l0_runs (n : Nat) : ∀ (l : List Int) (s t : Int), l.length ≤ n → Bytes l → 0 ≤ s → s < 65521 → 0 ≤ t → t < 65521 →
    ∃ k, adler_More.l0 k l s t = some (num (go s t l)) := by
  induction n using Nat.strongRecOn with
  | ind n ih =>
    intro l s t hn hl hs hs' ht ht'
    by_cases h0 : l = []
    · subst h0
      refine ⟨1, ?_⟩
      rw [adler_More.l0, if_neg (by simp), or_num ⟨hs, hs'⟩ ⟨ht, ht'⟩]
      rfl
    · have hpos : 0 < l.length := List.length_pos_iff.2 h0
      have hm : ∃ m : Nat, mn (l.length : Int) 5000 = m ∧ 0 < m ∧ m ≤ l.length ∧ m ≤ 5000 := by
        unfold mn
        split
        · exact ⟨5000, rfl, by omega, by omega, by omega⟩
        · exact ⟨l.length, rfl, by omega, by omega, by omega⟩
      obtain ⟨m, hm, m0, m1, m2⟩ := hm
      have hyl : (l.take m).length = m := by rw [List.length_take]; omega
      have hb := fr_le (l.take m) (hl.take m) s t hs ht
      obtain ⟨k, hk⟩ := ih (l.length - m) (by omega) (l.drop m) ((fr s t (l.take m)).1 % 65521) ((fr s t (l.take m)).2 % 65521) (by rw [List.length_drop]; omega) (hl.drop m) (by omega) (by omega) (by omega) (by omega)
      refine ⟨k + m + 1 + 1, ?_⟩
      rw [adler_More.l0, if_pos (by omega), hm, if_pos (by omega), if_pos (by omega)]
      simp only [Option.bind_some, Int.toNat_natCast]
      have := l1_runs l (l.take m) m (hl.take m) (by omega) (by omega) (by omega) m (k + m) 0 s t (by omega) (by omega) hs (by omega) ht (by omega)
      simp only [Int.toNat_natCast, List.drop_zero, Nat.add_sub_cancel, Int.cast_ofNat_Int] at this
      rw [this, hk]
      congr 2
      have e := go_fr (l.take m) s t
      rw [Int.emod_eq_of_lt hs hs', Int.emod_eq_of_lt ht ht'] at e
      conv => rhs; rw [← List.take_append_drop m l, go_app, e]

theorem rounds_of {α : Type} {g : Nat → Option α} {r : α} (hg : ∀ k, LeO (g k) (g (k + 1))) (h : ∃ k, g k = some r) : Ev g r := h.elim fun _ hk => Ev.of hg hk
theorem num_low {p : Int × Int} (h1 : 0 ≤ p.1) (h2 : p.1 < 65521) : num p % 65536 = p.1 := by unfold num; omega
theorem num_high {p : Int × Int} (h1 : 0 ≤ p.1) (h2 : p.1 < 65521) : num p / 65536 = p.2 := by unfold num; omega
theorem ev_more (a : Int) (l : List Int) (h0 : 0 ≤ a) (h1 : a < 4294967296) (hl : Bytes l) : Ev (fun k => adler_More.f k a l) (moreN a l) := by
  refine rounds_of (adler_More.mono a l) ?_
  unfold adler_More.f moreN
  rw [and_low h0 h1, tmod_pos (by omega), tmod_pos (by omega)]
  exact l0_runs l.length l _ _ (Nat.le_refl _) hl (by omega) (by omega) (by omega) (by omega)
theorem ev_of (l : List Int) (hl : Bytes l) : Ev (fun k => adler_Of.f k l) (moreN 1 l) := by
  obtain ⟨K, h⟩ := ev_more 1 l (by omega) (by omega) hl
  exact ⟨K, fun k hk => by have e : adler_More.f k 1 l = _ := h k hk; show (adler_Of.f k l) = _; unfold adler_Of.f; rw [e]; rfl⟩
theorem moreN_range (a : Int) (l : List Int) : 0 ≤ moreN a l ∧ moreN a l < 4294967296 := by
  unfold moreN num
  have := go_lt l (a % 65536 % 65521) (a / 65536 % 65521) (by omega) (by omega) (by omega) (by omega)
  omega

theorem ref_runs (l : List Int) (hl : Bytes l) (hn : l.length ≤ 9223372036854775806) (d : Nat) : ∀ (i : Nat) (s t : Int), i + d = l.length →
    0 ≤ s → s < 65521 → 0 ≤ t → t < 65521 → halftoneref04_More.l0 (d + 1) l s t i = some (num (go s t (l.drop i))) := by
  induction d with
  | zero =>
    intro i s t hi hs hs' ht ht'
    rw [halftoneref04_More.l0, if_neg (by omega), List.drop_of_length_le (by omega)]
    congr 1
    show _ = t * 65536 + s
    unfold wrap64; omega
  | succ d ih =>
    intro i s t hi hs hs' ht ht'
    have hlt : i < l.length := by omega
    have hrd : rd l (i : Int) = l[i] := by unfold rd; simp [hlt]
    have hc := hl l[i] (List.getElem_mem hlt)
    rw [halftoneref04_More.l0, if_pos (by omega), if_pos (by omega), hrd]
    rw [show wrap64 ((i : Int) + 1) = ((i + 1 : Nat) : Int) by unfold wrap64; omega]
    rw [show wrap64 (s + wrap64 l[i]) = s + l[i] by unfold wrap64; omega, tmod_pos (by omega)]
    rw [show wrap64 (t + (s + l[i]) % 65521) = t + (s + l[i]) % 65521 by unfold wrap64; omega, tmod_pos (by omega)]
    rw [ih (i + 1) _ _ (by omega) (by omega) (by omega) (by omega) (by omega), List.drop_eq_getElem_cons hlt]
    rfl
theorem ev_rmore (a : Int) (l : List Int) (h0 : 0 ≤ a) (h1 : a < 4294967296) (hl : Bytes l) (hn : l.length ≤ 9223372036854775806) : Ev (fun k => halftoneref04_More.f k a l) (moreN a l) := by
  refine rounds_of (halftoneref04_More.mono a l) ⟨l.length + 1, ?_⟩
  unfold halftoneref04_More.f moreN
  have e1 : Int.tmod (wrap64 (Int.tmod a 65536)) 65521 = a % 65536 % 65521 := by
    rw [Int.tmod_eq_emod_of_nonneg (a := a) h0, show wrap64 (a % 65536) = a % 65536 by unfold wrap64; omega, tmod_pos (by omega)]
  have e2 : Int.tdiv a 65536 % 4294967296 % 65521 = a / 65536 % 65521 := by
    rw [Int.tdiv_eq_ediv_of_nonneg h0, Int.emod_eq_of_lt (a := a / 65536) (by omega) (by omega)]
  rw [e1, e2]
  have := ref_runs l hl hn l.length 0 (a % 65536 % 65521) (a / 65536 % 65521) (by omega) (by omega) (by omega) (by omega) (by omega)
  simpa using this
theorem ev_rof (l : List Int) (hl : Bytes l) (hn : l.length ≤ 9223372036854775806) : Ev (fun k => halftoneref04_Of.f k l) (moreN 1 l) := by
  obtain ⟨K, h⟩ := ev_rmore 1 l (by omega) (by omega) hl hn
  exact ⟨K, fun k hk => by have e : halftoneref04_More.f k 1 l = _ := h k hk; show (halftoneref04_Of.f k l) = _; unfold halftoneref04_Of.f; rw [e]; rfl⟩
def isB (a : Int) : Bool := decide (a % 65536 < 65521) && decide (a / 65536 < 65521)
theorem is_eq {a : Int} (h0 : 0 ≤ a) (h1 : a < 4294967296) : adler_Is.f a = some (isB a) := by
  unfold adler_Is.f isB
  rw [and_low h0 h1]
  split <;> simp [*]
theorem ris_eq {a : Int} (h0 : 0 ≤ a) (h1 : a < 4294967296) : halftoneref04_Is.f a = some (isB a) := by
  unfold halftoneref04_Is.f isB
  rw [Int.tmod_eq_emod_of_nonneg h0, Int.tdiv_eq_ediv_of_nonneg h0, show a / 65536 % 4294967296 = a / 65536 by omega]
  split <;> simp [*]
theorem toNats_inj : ∀ {a b : List Int}, Bytes a → Bytes b → (a.map fun n => UInt8.ofNat n.toNat) = (b.map fun n => UInt8.ofNat n.toNat) → a = b
  | [], [], _, _, _ => rfl
  | [], _ :: _, _, _, h => by simp at h
  | _ :: _, [], _, _, h => by simp at h
  | x :: a, y :: b, ha, hb, h => by
    obtain ⟨hx, ha⟩ := ha.cons
    obtain ⟨hy, hb⟩ := hb.cons
    simp only [List.map_cons, List.cons.injEq] at h
    have e : x.toNat = y.toNat := by
      have := congrArg UInt8.toNat h.1
      simp only [UInt8.toNat_ofNat'] at this
      omega
    rw [toNats_inj ha hb h.2, show x = y by omega]
theorem same_eq {a b : List Int} (ha : Bytes a) (hb : Bytes b) : halftoneref01_Same.f a b = some (decide (a = b)) := by
  unfold halftoneref01_Same.f
  congr 1
  rw [Bool.eq_iff_iff, beq_iff_eq, decide_eq_true_iff]
  rw [ByteArray.toList_eq, ByteArray.toList_eq]
  exact ⟨fun h => toNats_inj ha hb h, fun h => by rw [h]⟩
theorem AdlerSums : halftonelaw04_AdlerSums.Pure := by
  intro a l h0 h1 h2 h3
  have ha := wf_u32 h0
  have hl := Bytes.of h3
  have hn : l.length ≤ 9223372036854775806 := by omega
  obtain ⟨K1, e1⟩ := ev_more a l ha.1 ha.2 hl
  obtain ⟨K2, e2⟩ := ev_rmore a l ha.1 ha.2 hl hn
  obtain ⟨K3, e3⟩ := ev_of l hl
  obtain ⟨K4, e4⟩ := ev_rof l hl hn
  refine ⟨K1 + K2 + K3 + K4, ?_⟩
  simp only [] at e1 e2 e3 e4
  unfold halftonelaw04_AdlerSums.f halftonelaw04_fixed.f
  simp only [Option.bind_some, if_true, List.nil_append, List.length_nil, Nat.zero_add]
  rw [if_pos (by omega), e1 _ (by omega), e2 _ (by omega)]
  simp only [Option.bind_some, if_true]
  rw [e3 _ (by omega), e4 _ (by omega), is_eq ha.1 ha.2, ris_eq ha.1 ha.2]
  simp only [Option.bind_some, if_true, beq_self_eq_true]
  rw [same_eq hl hl]
  simp

/-! two texts together -/
theorem fr_shift (l : List Int) : ∀ s t, fr s t l = (s + (fr 0 0 l).1, t + l.length * s + (fr 0 0 l).2) := by
  induction l with
  | nil => intro s t; simp [fr]
  | cons c l ih =>
    intro s t
    simp only [fr]
    rw [ih (s + c) (t + (s + c)), ih (0 + c) (0 + (0 + c))]
    have e1 : ((c :: l).length : Int) * s = l.length * s + s := by rw [List.length_cons, Int.natCast_add, Int.add_mul]; simp
    have e2 : (l.length : Int) * (s + c) = l.length * s + l.length * c := Int.mul_add ..
    have e3 : (l.length : Int) * (0 + c) = l.length * c := by rw [Int.zero_add]
    refine Prod.ext ?_ ?_
    · show s + c + _ = s + (0 + c + _); omega
    · show t + (s + c) + _ + _ = t + _ + (0 + (0 + c) + _ + _)
      rw [e1, e2, e3]; omega
theorem num_pq {p : Int × Int} (h1 : 0 ≤ p.1 ∧ p.1 < 65521) (h2 : 0 ≤ p.2 ∧ p.2 < 65521) : num p % 65536 % 65521 = p.1 ∧ num p / 65536 % 65521 = p.2 := by
  rw [num_low h1.1 h1.2, num_high h1.1 h1.2]; omega
theorem u64_id {x : Int} (h0 : 0 ≤ x) (h1 : x < 18446744073709551616) : IntKind.u64.wrap x = x := by
  simp [IntKind.wrap, IntKind.bits, IntKind.signed]; omega
theorem join_eq (a b : List Int) (hn : b.length < 9223372036854775808) : adler_Join.f (moreN 1 a) (moreN 1 b) b.length = some (moreN (moreN 1 a) b) := by
  have hr := moreN_range 1 a
  have hs := moreN_range 1 b
  unfold adler_Join.f
  rw [and_low hr.1 hr.2, and_low hs.1 hs.2]
  unfold moreN
  have ga := go_lt a (1 % 65536 % 65521) (1 / 65536 % 65521) (by omega) (by omega) (by omega) (by omega)
  have gb := go_lt b (1 % 65536 % 65521) (1 / 65536 % 65521) (by omega) (by omega) (by omega) (by omega)
  generalize hpa : go (1 % 65536 % 65521) (1 / 65536 % 65521) a = pa at ga
  generalize hpb : go (1 % 65536 % 65521) (1 / 65536 % 65521) b = pb at gb
  rw [num_low ga.1.1 ga.1.2, num_high ga.1.1 ga.1.2, num_low gb.1.1 gb.1.2, num_high gb.1.1 gb.1.2]
  rw [tmod_pos ga.1.1, tmod_pos ga.2.1, tmod_pos gb.1.1, tmod_pos gb.2.1]
  rw [Int.emod_eq_of_lt ga.1.1 ga.1.2, Int.emod_eq_of_lt ga.2.1 ga.2.2, Int.emod_eq_of_lt gb.1.1 gb.1.2, Int.emod_eq_of_lt gb.2.1 gb.2.2]
  obtain ⟨p, q⟩ := pa
  obtain ⟨u, v⟩ := pb
  simp only at ga gb ⊢
  have hb : (u, v) = ((1 + (fr 0 0 b).1) % 65521, ((b.length : Int) + (fr 0 0 b).2) % 65521) := by
    rw [← hpb]
    have e := go_fr b 1 0
    rw [fr_shift b 1 0] at e
    simp only [Int.zero_add, Int.mul_one] at e
    exact e
  have hg : go p q b = ((p + (fr 0 0 b).1) % 65521, (q + b.length * p + (fr 0 0 b).2) % 65521) := by
    have e := go_fr b p q
    rw [fr_shift b p q, Int.emod_eq_of_lt ga.1.1 ga.1.2, Int.emod_eq_of_lt ga.2.1 ga.2.2] at e
    exact e
  rw [hg]
  obtain ⟨hu, hv⟩ := Prod.mk.inj hb
  generalize (fr 0 0 b).1 = S at *
  generalize (fr 0 0 b).2 = T at *
  have hmx : IntKind.u64.wrap (mx (b.length : Int) 0) = (b.length : Int) := by
    unfold mx; rw [if_neg (by omega), u64_id (by omega) (by omega)]
  have hn0 : (0 : Int) ≤ (b.length : Int) := by omega
  rw [hmx]
  generalize (b.length : Int) = n at *
  rw [tmod_pos (a := n) hn0]
  obtain ⟨k, hk⟩ : ∃ k, n % 65521 = k := ⟨_, rfl⟩
  have hkb : 0 ≤ k ∧ k < 65521 := by omega
  rw [hk]
  have hkp0 : 0 ≤ k * p := Int.mul_nonneg hkb.1 ga.1.1
  have hkp1 : k * p ≤ 65520 * 65520 := Int.mul_le_mul (by omega) (by omega) ga.1.1 (by omega)
  have hkd : k * (p + 65521 - 1) = k * p + 65520 * k := by
    rw [show p + 65521 - 1 = p + 65520 by omega, Int.mul_add, Int.mul_comm k 65520]
  rw [u64_id (x := q) (by omega) (by omega), u64_id (x := v) (by omega) (by omega), u64_id (x := p) (by omega) (by omega), u64_id (x := u) (by omega) (by omega)]
  rw [u64_id (x := p + 65521) (by omega) (by omega), u64_id (x := p + 65521 - 1) (by omega) (by omega)]
  rw [hkd]
  rw [u64_id (x := k * p + 65520 * k) (by omega) (by omega), u64_id (x := v + (k * p + 65520 * k)) (by omega) (by omega), u64_id (x := q + (v + (k * p + 65520 * k))) (by omega) (by omega)]
  rw [u64_id (x := p + u) (by omega) (by omega), u64_id (x := p + u + 65521) (by omega) (by omega), u64_id (x := p + u + 65521 - 1) (by omega) (by omega)]
  rw [tmod_pos (a := q + (v + (k * p + 65520 * k))) (by omega), tmod_pos (a := p + u + 65521 - 1) (by omega)]
  have hnp : n * p = 65521 * (n / 65521 * p) + k * p := by
    have e : n = 65521 * (n / 65521) + k := by omega
    have e2 : (65521 * (n / 65521) + k) * p = 65521 * (n / 65521 * p) + k * p := by rw [Int.add_mul, Int.mul_assoc]
    rw [← e2, ← e]
  generalize n / 65521 * p = z at hnp
  generalize k * p = kp at *
  generalize n * p = np at *
  have f1 : (q + (v + (kp + 65520 * k))) % 65521 % 4294967296 = (q + np + T) % 65521 := by omega
  have f2 : (p + u + 65521 - 1) % 65521 % 4294967296 = (p + S) % 65521 := by omega
  rw [f1, f2, or_num (by omega) (by omega)]
  rfl
theorem AdlerTogether : halftonelaw04_AdlerTogether.Pure := by
  intro a b _ h1 h2 _ h4 h5
  have ha := Bytes.of h2
  have hb := Bytes.of h5
  obtain ⟨K1, e1⟩ := ev_of a ha
  obtain ⟨K2, e2⟩ := ev_of b hb
  have hr := moreN_range 1 a
  obtain ⟨K3, e3⟩ := ev_more (moreN 1 a) b hr.1 hr.2 hb
  refine ⟨K1 + K2 + K3, ?_⟩
  simp only [] at e1 e2 e3
  unfold halftonelaw04_AdlerTogether.f halftonelaw04_fixed.f
  simp only [Option.bind_some, if_true]
  rw [e1 _ (by omega), e2 _ (by omega)]
  simp only [Option.bind_some]
  rw [join_eq a b (by omega)]
  simp only [Option.bind_some]
  rw [e3 _ (by omega)]
  simp

/-! one byte is another one -/
theorem fr_set (l : List Int) (v : Int) : ∀ (i : Nat) (h : i < l.length) (s t : Int), (fr s t (l.set i v)).1 = (fr s t l).1 - l[i] + v := by
  induction l with
  | nil => intro i h; simp at h
  | cons c l ih =>
    intro i h s t
    cases i with
    | zero => simp only [List.set_cons_zero, fr, List.getElem_cons_zero]; rw [fr_shift l (s + v), fr_shift l (s + c)]; simp only; omega
    | succ i => simp only [List.set_cons_succ, fr, List.getElem_cons_succ]; exact ih i (by simpa using h) _ _
theorem low_of (l : List Int) : moreN 1 l % 65536 = (fr 1 0 l).1 % 65521 := by
  have g := go_lt l (1 % 65536 % 65521) (1 / 65536 % 65521) (by omega) (by omega) (by omega) (by omega)
  unfold moreN
  rw [num_low g.1.1 g.1.2]
  exact congrArg Prod.fst (go_fr l 1 0)
theorem set_same (l : List Int) (i : Nat) (h : i < l.length) (v : Int) (hv : v = l[i]) : l.set i v = l := by
  subst hv; exact List.set_getElem_self h
theorem AdlerTurned : halftonelaw04_AdlerTurned.Pure := by
  intro l a v _ h1 h2 h3 h4
  have hl := Bytes.of h2
  have ha := wf_u16 h3
  have hv := wf_u8 h4
  by_cases h0 : l = []
  · subst h0
    exact ⟨0, by unfold halftonelaw04_AdlerTurned.f halftonelaw04_fixed.f; simp⟩
  have hpos : 0 < l.length := List.length_pos_iff.2 h0
  obtain ⟨i, hi⟩ : ∃ i : Nat, Int.tmod (wrap64 a) (l.length : Int) = i ∧ i < l.length := by
    have : wrap64 a = a := by unfold wrap64; omega
    rw [this, Int.tmod_eq_emod_of_nonneg ha.1]
    have p1 := Int.emod_nonneg a (show (l.length : Int) ≠ 0 by omega)
    have p2 := Int.emod_lt_of_pos a (show (0 : Int) < l.length by omega)
    exact ⟨(a % l.length).toNat, by omega, by omega⟩
  have hc : Bytes (l.set i v) := fun x hx => by
    rcases List.mem_or_eq_of_mem_set hx with h | h
    · exact hl x h
    · subst h; exact hv
  obtain ⟨K1, e1⟩ := ev_of l hl
  obtain ⟨K2, e2⟩ := ev_of _ hc
  refine ⟨K1 + K2, ?_⟩
  simp only [] at e1 e2
  unfold halftonelaw04_AdlerTurned.f halftonelaw04_fixed.f
  simp only [Option.bind_some, if_true, List.nil_append, List.length_nil, Nat.zero_add]
  rw [if_neg (by omega), if_pos (by omega), if_neg (by omega), hi.1, if_pos (by omega), if_pos (by omega), Int.toNat_natCast]
  rw [same_eq hl hc]
  simp only [Option.bind_some]
  rw [e1 _ (by omega), e2 _ (by omega)]
  simp only [Option.bind_some, Option.some.injEq, beq_iff_eq]
  rw [Bool.eq_iff_iff, decide_eq_true_iff, beq_iff_eq]
  constructor
  · intro h; rw [← h]
  · intro h
    have e := congrArg (· % 65536) h
    simp only [low_of] at e
    rw [fr_set l v i hi.2] at e
    have hb := hl l[i] (List.getElem_mem hi.2)
    exact (set_same l i hi.2 v (by omega)).symm
end Go.Proofs.Ytgfhggbnlnpebaa.Lib
