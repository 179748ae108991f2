/- ChunkPacks: what the reference's Pack comes to, in plain Lean. -/
import Derived.Test.YtapaodagnpaekaaF2
namespace Go.Proofs.Ytapaodagnpaekaa.Lib
open Go.RowKit Go.Proofs.YtapaodagnpaekaaW.PrintWords Go.Proofs.YtapaodagnpaekaaW.PrintLast Go.Proofs.YtapaodagnpaekaaW.PrintMore
set_option linter.unusedVariables false
set_option linter.unusedSimpArgs false
theorem let_or : ∀ c : Nat, c < 256 → letB (c : Int) = (decide (65 ≤ c ∧ c ≤ 90) || decide (97 ≤ c ∧ c ≤ 122)) := by decide +kernel
theorem bytesOf_at (s : ByteArray) (i : Nat) (h : i < (bytesOf s).length) : bt s (i : Int) = (bytesOf s)[i] := by
  have h2 : i < s.size := by rw [bytesOf_length] at h; exact h
  have h4 : i < (s.data.toList.map fun b => (b.toNat : Int)).length := h
  have h5 : (bytesOf s)[i] = (s.data.toList.map fun b => (b.toNat : Int))[i]'h4 := rfl
  refine Eq.trans ?_ h5.symm
  rw [List.getElem_map]
  unfold bt
  rw [dif_pos (show ((i : Int)).toNat < s.size from h2)]
  rfl
theorem kind_l0 (s : ByteArray) (hs : s.size ≤ 140737488351232) : ∀ (d i k : Nat), i + d = s.size → d < k → halftoneref11_Kind.l0 k s (i : Int) = some (((bytesOf s).drop i).all letB && (s.size == 4))
  | 0, i, k + 1, h, _ => by
    rw [halftoneref11_Kind.l0, if_neg (by omega), List.drop_eq_nil_of_le (by rw [bytesOf_length]; omega)]
    congr 1
    rw [Bool.eq_iff_iff]
    simp
    omega
  | d + 1, i, k + 1, h, hk => by
    have hi : i < (bytesOf s).length := by rw [bytesOf_length]; omega
    have hb := bytesOf_at s i hi
    have hr := bytes_bytes s _ (List.getElem_mem hi)
    rw [halftoneref11_Kind.l0, if_pos (by omega), if_pos (by omega), hb, List.drop_eq_getElem_cons hi, List.all_cons, wrap_nat (by omega), kind_l0 s hs d (i + 1) k (by omega) (by omega)]
    generalize (bytesOf s)[i] = x at hr ⊢
    have hx := let_or x.toNat (by omega)
    rw [Int.toNat_of_nonneg hr.1] at hx
    rw [hx]
    by_cases h1 : x ≥ 65
    · rw [if_pos h1]
      by_cases h2 : x ≤ 90
      · rw [if_pos h2, show (decide (65 ≤ x.toNat ∧ x.toNat ≤ 90) : Bool) = true from decide_eq_true (by omega)]
        simp
      · rw [if_neg h2, show (decide (65 ≤ x.toNat ∧ x.toNat ≤ 90) : Bool) = false from decide_eq_false (by omega)]
        by_cases h3 : x ≥ 97
        · rw [if_pos h3]
          by_cases h4 : x ≤ 122
          · rw [if_pos h4, show (decide (97 ≤ x.toNat ∧ x.toNat ≤ 122) : Bool) = true from decide_eq_true (by omega)]
            simp
          · rw [if_neg h4, show (decide (97 ≤ x.toNat ∧ x.toNat ≤ 122) : Bool) = false from decide_eq_false (by omega)]
            simp
        · rw [if_neg h3, show (decide (97 ≤ x.toNat ∧ x.toNat ≤ 122) : Bool) = false from decide_eq_false (by omega)]
          simp
    · rw [if_neg h1, if_neg (by omega), show (decide (65 ≤ x.toNat ∧ x.toNat ≤ 90) : Bool) = false from decide_eq_false (by omega), show (decide (97 ≤ x.toNat ∧ x.toNat ≤ 122) : Bool) = false from decide_eq_false (by omega)]
      simp
theorem kind_f (s : ByteArray) (hs : s.size ≤ 140737488351232) (k : Nat) (hk : s.size < k) : halftoneref11_Kind.f k s = some (kindB s) := by
  have h := kind_l0 s hs s.size 0 k (by omega) hk
  rw [List.drop_zero] at h
  show halftoneref11_Kind.l0 k s ((0 : Nat) : Int) = _
  rw [h]
  unfold kindB
  rw [Bool.and_comm]
theorem i64_and255 (n : Int) : Go.bits .and .i64 n 255 = n % 256 := by
  have h127 : (BitVec.ofInt 64 255).toNat = 2 ^ 8 - 1 := by decide
  have key : (BitVec.ofInt 64 n &&& BitVec.ofInt 64 255).toNat = (n % ((2 ^ 64 : Nat) : Int)).toNat % 2 ^ 8 := by
    rw [BitVec.toNat_and, BitVec.toNat_ofInt, h127, Nat.and_two_pow_sub_one_eq_mod]
  show IntKind.i64.wrap ((BitVec.ofInt 64 n &&& BitVec.ofInt 64 255).toNat : Nat) = n % 256
  rw [key, IntKind.wrap_i64]
  omega
theorem putl_f (v : Int) : halftoneref02_PutLittle.f 6 4 v = some [v % 256, v / 256 % 256, v / 256 / 256 % 256, v / 256 / 256 / 256 % 256] := by
  have e1 : wrap64 1 = 1 := by unfold wrap64; omega
  have e2 : wrap64 2 = 2 := by unfold wrap64; omega
  have e3 : wrap64 3 = 3 := by unfold wrap64; omega
  have e4 : wrap64 4 = 4 := by unfold wrap64; omega
  simp [halftoneref02_PutLittle.f, halftoneref02_PutLittle.l0, e1, e2, e3, e4, i64_and255]
theorem turn_f (a b c d : Int) : halftoneref02_Turned.f 6 [a, b, c, d] = some [d, c, b, a] := by
  have e0 : wrap64 0 = 0 := by unfold wrap64; omega
  have e1 : wrap64 1 = 1 := by unfold wrap64; omega
  have e2 : wrap64 2 = 2 := by unfold wrap64; omega
  have e3 : wrap64 3 = 3 := by unfold wrap64; omega
  have e4 : wrap64 (-1) = -1 := by unfold wrap64; omega
  simp [halftoneref02_Turned.f, halftoneref02_Turned.l0, e0, e1, e2, e3, e4, rd]
theorem ev_putbig (v : Int) : Ev (fun k => halftoneref02_PutBig.f k 4 v) (be4 v) := by
  refine Ev.of (halftoneref02_PutBig.mono 4 v) (k := 6) ?_
  unfold halftoneref02_PutBig.f
  rw [putl_f]
  show (halftoneref02_Turned.f 6 _).bind _ = _
  rw [turn_f]
  show some _ = some (be4 v)
  unfold be4
  rw [show v / 256 / 256 / 256 = v / 16777216 by omega, show v / 256 / 256 = v / 65536 by omega]
theorem ev_one (c : S40) (h0 : c.f0.size ≤ 1048576) (h1 : c.f1.length ≤ 1048576) (hb : Bytes c.f1) : Ev (fun k => halftoneref11_One.f k c.f0 c.f1) (oneL c) := by
  have hr := moreN_range 0 (bytesOf c.f0 ++ c.f1)
  refine Ev.congr (f := fun k => (halftoneref02_PutBig.f k 4 (c.f1.length : Int)).bind fun p => (halftoneref03_Of.f k (bytesOf c.f0 ++ c.f1)).bind fun s => (halftoneref02_PutBig.f k 4 s).bind fun q =>
      if p.length ≤ 100 ∧ q.length ≤ 100 ∧ 0 ≤ s ∧ s < 4294967296 then some (p ++ (bytesOf c.f0 ++ c.f1) ++ q) else none) (fun k => by unfold halftoneref11_One.f; rw [if_pos ⟨h0, h1⟩]) ?_
  refine Ev.bind (ev_putbig _) ?_
  refine Ev.bind (ev_rof _ ((bytes_bytes c.f0).app hb) (by rw [List.length_append, bytesOf_length]; omega)) ?_
  refine Ev.bind (ev_putbig _) ?_
  refine Ev.congr (f := fun _ => some (oneL c)) (fun k => ?_) (Ev.now _)
  rw [if_pos ⟨by rw [be4_length]; decide, by rw [be4_length]; decide, hr.1, hr.2⟩]
  unfold oneL
  simp only [List.append_assoc]
theorem rd40 {cs : List S40} {i : Nat} (h : i < cs.length) : rd_T40 cs (i : Int) = cs[i] := by
  unfold rd_T40
  rw [Int.toNat_natCast, List.getD_eq_getElem?_getD, List.getElem?_eq_getElem h]
  rfl
theorem le_sum_mem {x : Nat} : ∀ {l : List Nat}, x ∈ l → x ≤ l.sum
  | y :: l, h => by
    rw [List.sum_cons]
    rcases List.mem_cons.1 h with rfl | h
    · omega
    · have := le_sum_mem h
      omega
/-- what Pack tells -/
def packR (cs : List S40) : List Int × Int := if cs.all (fun c => kindB c.f0) = true then (packL cs, 0) else ([], 1)
section
variable {cs : List S40} (hF : Few cs) (hZ : ∀ c ∈ cs, c.f0.size ≤ 140737488351232)
include hF hZ
omit hZ in
theorem few_len {c : S40} (h : c ∈ cs) : c.f1.length ≤ 5000 := by
  have h1 := hF.s
  have h2 : c.f1.length ≤ (cs.map fun c => c.f1.length).sum := le_sum_mem (List.mem_map_of_mem h)
  omega
omit hZ in
theorem pack_l2 (hk : cs.all (fun c => kindB c.f0) = true) : ∀ (d i : Nat), i + d = cs.length → Ev (fun k => halftoneref11_Pack.l2 k (packL (cs.take i)) cs (cs.length : Int) (i : Int)) (packL cs, 0)
  | 0, i, h => by
    refine Ev.step (f := fun _ => some (packL cs, 0)) (fun k => ?_) (Ev.now _)
    rw [halftoneref11_Pack.l2, if_neg (by omega), List.take_of_length_le (by omega)]
  | d + 1, i, h => by
    have hi : i < cs.length := by omega
    have hm := List.getElem_mem hi
    have hl := few_len hF hm
    have hp := pack_len hF hk i
    have hn := hF.n
    have hks := kind_size (List.all_eq_true.1 hk _ hm)
    refine Ev.step (f := fun k => (halftoneref11_One.f k cs[i].f0 cs[i].f1).bind fun t => if (packL (cs.take i)).length + t.length < 140737488355328 then halftoneref11_Pack.l2 k (packL (cs.take i) ++ t) cs (cs.length : Int) ((i + 1 : Nat) : Int) else none) (fun k => ?_) ?_
    · rw [halftoneref11_Pack.l2, if_pos (by omega), if_pos (by omega), if_pos (by omega), rd40 hi, if_neg (by unfold wrap64; omega), wrap_nat (by omega)]
    · refine Ev.bind (ev_one _ (by omega) (by omega) (hF.b _ hm)) ?_
      have ho := oneL_length cs[i] hks
      refine Ev.congr (f := fun k => halftoneref11_Pack.l2 k (packL (cs.take (i + 1))) cs (cs.length : Int) ((i + 1 : Nat) : Int)) (fun k => ?_) (pack_l2 hk d (i + 1) (by omega))
      rw [if_pos (by omega)]
      congr 1
      rw [packL_snoc cs i hi, List.getD_eq_getElem?_getD, List.getElem?_eq_getElem hi]
      rfl
omit hZ in
theorem pack_l1 (hk : cs.all (fun c => kindB c.f0) = true) : ∀ (d i : Nat), i + d = cs.length → Ev (fun k => halftoneref11_Pack.l1 k cs firstL cs (cs.length : Int) (i : Int)) (packL cs, 0)
  | 0, i, h => by
    refine Ev.step (f := fun k => halftoneref11_Pack.l2 k (packL (cs.take 0)) cs (cs.length : Int) ((0 : Nat) : Int)) (fun k => ?_) (pack_l2 hF hk cs.length 0 (by omega))
    rw [halftoneref11_Pack.l1, if_neg (by omega)]
    rfl
  | d + 1, i, h => by
    have hi : i < cs.length := by omega
    have hl := few_len hF (List.getElem_mem hi)
    refine Ev.step (fun k => ?_) (pack_l1 hk d (i + 1) (by omega))
    have hn := hF.n
    rw [halftoneref11_Pack.l1, if_pos (by omega), if_pos (by omega), if_pos (by omega), rd40 hi, if_neg (by omega), wrap_nat (by omega)]
theorem pack_l0 : ∀ (d i : Nat), i + d = cs.length → (cs.take i).all (fun c => kindB c.f0) = true → Ev (fun k => halftoneref11_Pack.l0 k cs cs (cs.length : Int) (i : Int)) (packR cs)
  | 0, i, h, ha => by
    rw [List.take_of_length_le (by omega)] at ha
    unfold packR
    rw [if_pos ha]
    refine Ev.step (f := fun k => halftoneref11_Pack.l1 k cs firstL cs (cs.length : Int) ((0 : Nat) : Int)) (fun k => ?_) (pack_l1 hF ha cs.length 0 (by omega))
    rw [halftoneref11_Pack.l0, if_neg (by omega)]
    rfl
  | d + 1, i, h, ha => by
    have hi : i < cs.length := by omega
    have hm := List.getElem_mem hi
    have hn := hF.n
    have hz := hZ _ hm
    refine Ev.step (f := fun k => (halftoneref11_Kind.f k cs[i].f0).bind fun t => if t = true then halftoneref11_Pack.l0 k cs cs (cs.length : Int) ((i + 1 : Nat) : Int) else some ([], 1)) (fun k => ?_) ?_
    · rw [halftoneref11_Pack.l0, if_pos (by omega), if_pos (by omega), if_pos (by omega), rd40 hi, wrap_nat (by omega)]
    · refine Ev.bind (a := kindB cs[i].f0) ⟨cs[i].f0.size + 1, fun k hk => kind_f _ hz k (by omega)⟩ ?_
      cases hkb : kindB cs[i].f0
      · refine Ev.congr (f := fun _ => some (packR cs)) (fun k => ?_) (Ev.now _)
        rw [if_neg (by decide)]
        unfold packR
        rw [if_neg (by rw [all_not (t := i) hi (by rw [List.getD_eq_getElem?_getD, List.getElem?_eq_getElem hi]; exact hkb)]; decide)]
      · refine Ev.congr (fun k => by rw [if_pos rfl]) (pack_l0 d (i + 1) (by omega) ?_)
        exact all_snoc (t := i) hi ha (by rw [List.getD_eq_getElem?_getD, List.getElem?_eq_getElem hi]; exact hkb)
theorem ev_pack : Ev (fun k => halftoneref11_Pack.f k cs) (packR cs) := by
  unfold halftoneref11_Pack.f
  exact pack_l0 hF hZ cs.length 0 (by omega) rfl
omit hZ in
theorem packs_l1 (R : List Int × Int) : ∀ (d i : Nat), i + d = cs.length → Ev (fun k => halftonelaw11_ChunkPacks.l1 k cs cs R.1 R.2 R.1 R.2 (cs.length : Int) (i : Int)) true
  | 0, i, h => by
    refine Ev.step (f := fun _ => some true) (fun k => ?_) (Ev.now _)
    rw [halftonelaw11_ChunkPacks.l1, if_neg (by omega), if_pos rfl]
    simp [halftoneref01_Same.f]
  | d + 1, i, h => by
    have hi : i < cs.length := by omega
    have hn := hF.n
    refine Ev.step (fun k => ?_) (packs_l1 R d (i + 1) (by omega))
    rw [halftonelaw11_ChunkPacks.l1, if_pos (by omega), if_pos (by omega), if_pos (by omega), if_pos (by omega), if_pos rfl, wrap_nat (by omega)]
    simp [halftoneref01_Same.f]
end
theorem packs_l0 {cs : List S40} (hne : 0 < cs.length) (hn : cs.length ≤ 9223372036854775807) (hL : ∀ c ∈ cs, c.f1.length ≤ 140737488351232) (hB : ∀ c ∈ cs, Bytes c.f1) (hZ : ∀ c ∈ cs, c.f0.size ≤ 140737488351232) : ∀ (d i : Nat), i + d = cs.length → i ≤ 101 → ((cs.take i).map fun c => c.f1.length).sum ≤ 5000 → Ev (fun k => halftonelaw11_ChunkPacks.l0 k cs ((((cs.take i).map fun c => c.f1.length).sum : Nat) : Int) (cs.take i) cs (cs.length : Int) (i : Int)) true
  | 0, i, h, h1, h2 => by
    rw [List.take_of_length_le (by omega)] at h2 ⊢
    have hF : Few cs := ⟨by omega, h2, hB⟩
    refine Ev.step (f := fun k => (chunk_Pack.f k cs).bind fun b => (halftoneref11_Pack.f k cs).bind fun c => halftonelaw11_ChunkPacks.l1 k cs cs b.1 b.2 c.1 c.2 (cs.length : Int) 0) (fun k => ?_) ?_
    · rw [halftonelaw11_ChunkPacks.l0, if_neg (by omega)]
    · refine Ev.bind (a := packR cs) ⟨0, fun k _ => ?_⟩ (Ev.bind (ev_pack hF hZ) (packs_l1 hF (packR cs) cs.length 0 (by omega)))
      show chunk_Pack.f k cs = _
      unfold chunk_Pack.f packR
      rw [if_pos ⟨hne, fewB_iff.2 hF⟩]
  | d + 1, i, h, h1, h2 => by
    have hi : i < cs.length := by omega
    have hm := List.getElem_mem hi
    have hl := hL _ hm
    have htk : ((cs.take (i + 1)).map fun c => c.f1.length).sum = ((cs.take i).map fun c => c.f1.length).sum + cs[i].f1.length := by
      rw [List.take_succ_eq_append_getElem hi, List.map_append, List.sum_append]
      simp
    have hw : wrap64 (((((cs.take i).map fun c => c.f1.length).sum : Nat) : Int) + (cs[i].f1.length : Int)) = ((((cs.take (i + 1)).map fun c => c.f1.length).sum : Nat) : Int) := by
      rw [htk]
      unfold wrap64
      omega
    by_cases hs : 5000 < ((cs.take (i + 1)).map fun c => c.f1.length).sum
    · refine Ev.step (f := fun _ => some true) (fun k => ?_) (Ev.now _)
      rw [halftonelaw11_ChunkPacks.l0, if_pos (by omega), if_pos (by omega), if_pos (by omega), rd40 hi, hw, if_pos (by omega)]
    · by_cases hx : i > 100
      · refine Ev.step (f := fun _ => some true) (fun k => ?_) (Ev.now _)
        rw [halftonelaw11_ChunkPacks.l0, if_pos (by omega), if_pos (by omega), if_pos (by omega), rd40 hi, hw, if_neg (by omega), if_pos (by omega)]
      · refine Ev.step (fun k => ?_) (packs_l0 hne hn hL hB hZ d (i + 1) (by omega) (by omega) (by omega))
        rw [halftonelaw11_ChunkPacks.l0, if_pos (by omega), if_pos (by omega), if_pos (by omega), rd40 hi, hw, if_neg (by omega), if_neg (by omega), wrap_nat (by omega)]
        show (if ([] : List Int).length + cs[i].f1.length < 140737488355328 then _ else _) = _
        rw [if_pos (by simp; omega), if_pos (by rw [List.length_take]; omega), List.nil_append, List.take_succ_eq_append_getElem hi]
theorem ev_packs {cs : List S40} (hne : 0 < cs.length) (hn : cs.length ≤ 9223372036854775807) (hL : ∀ c ∈ cs, c.f1.length ≤ 140737488351232) (hB : ∀ c ∈ cs, Bytes c.f1) (hZ : ∀ c ∈ cs, c.f0.size ≤ 140737488351232) : Ev (fun k => halftonelaw11_ChunkPacks.f k cs) true := by
  unfold halftonelaw11_ChunkPacks.f
  exact packs_l0 hne hn hL hB hZ cs.length 0 (by omega) (by omega) (by simp)
end Go.Proofs.Ytapaodagnpaekaa.Lib
