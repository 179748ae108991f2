/- ChunkTurned: the row (under way). -/
import Derived.Test.YtapaodagnpaekaaP7
import Derived.BigQuiet
namespace Go.Proofs.Ytapaodagnpaekaa.Lib
open Go.RowKit Go.Proofs.YtapaodagnpaekaaW.PrintWords Go.Proofs.YtapaodagnpaekaaW.PrintLast Go.Proofs.YtapaodagnpaekaaW.PrintMore
set_option linter.unusedVariables false
set_option linter.unusedSimpArgs false
theorem C_one {W : World} {b : Nat} {s : ByteArray} {A1 : Option Addr} {d : List Int} {c1 : Nat} (h : W.heap[b]? = some (.cells #[.string s, .slice A1 d.length c1] 40 (0, 0))) (hc : d.length ≤ c1) (hC : Kd.C (Kd.int .u8) W A1 d.length d) : Kd.C k40 W (some ⟨b, 0, none⟩) 1 [⟨s, d⟩] := by
  refine ⟨rfl, by simp, fun _ => ⟨_, rfl, fun j p hj => ⟨[.string s, .slice A1 d.length c1], rfl, ?_, fun i u hi => ?_⟩⟩⟩
  · cases j with
    | zero =>
      obtain rfl := Option.some.inj (show some (⟨s, d⟩ : S40) = some p from hj)
      exact k40_mk W ⟨s, d⟩ hc hC
    | succ j => simp at hj
  · cases j with
    | zero =>
      have h1 := blk_cell h i
      rw [add_plain]
      show World.cell? _ ⟨b, 0 * 2 + i, none⟩ = _
      rw [Nat.zero_mul, Nat.zero_add]
      exact h1.trans (by simpa using hi)
    | succ j => simp at hj
theorem pack_one {W : World} {b : Nat} {s : ByteArray} {A1 : Option Addr} {d : List Int} {c1 n : Nat} (hn : d.length = n) (h : W.heap[b]? = some (.cells #[.string s, .slice A1 n c1] 40 (0, 0))) (hc : n ≤ c1) (hC : Kd.C (Kd.int .u8) W A1 n d) (hl : n ≤ 2000) (hb : Bytes d) :
    Calls Try.prog 15 #[.slice (some ⟨b, 0, none⟩) 1 1] W fun e w' => PackP [⟨s, d⟩] W e w' := by
  subst hn
  exact pack_walk (some ⟨b, 0, none⟩) 1 1 [⟨s, d⟩] W rfl (C_one h hc hC) ⟨by simp, by simp; omega, fun c hc x hx => by rw [List.mem_singleton] at hc; rw [hc] at hx; exact hb x hx⟩
attribute [local go_sem] max2_int min2_int max_two min_two max_three min_three max_four min_four
theorem xor_byte (u v : Int) : 0 ≤ Go.bits .xor .u8 u v ∧ Go.bits .xor .u8 u v < 256 := by
  unfold Go.bits
  simp [IntKind.wrap, IntKind.signed, IntKind.bits]
  omega
theorem sum_put {W : World} {g n B c2 m p j : Nat} {kd s4 : List Int} (h : Kd.R (Kd.int .u8) 5 W B (fun _ => True) (.slice (some ⟨g, 0, none⟩) n c2) (firstL ++ (be4 (m : Int) ++ kd ++ s4))) (hk : kd.length = m + 4) (h4 : s4.length = 4) (hB : Bytes s4) (hp : p + j = m + 19) (hj : j < 4) (u v : Int) :
    ∃ s5 : List Int, s5.length = 4 ∧ Bytes s5 ∧ Kd.R (Kd.int .u8) 5 (W.setCell ⟨g, p, none⟩ (.int .u8 (Go.bits .xor .u8 u v))) B (fun _ => True) (.slice (some ⟨g, 0, none⟩) n c2) (firstL ++ (be4 (m : Int) ++ kd ++ s5)) := by
  have h1 := Kd.R_putn h (p : Int) (Go.bits .xor .u8 u v)
  refine ⟨s4.set (p - (m + 16)) (Go.bits .xor .u8 u v), by simp [h4], fun x hx => ?_, ?_⟩
  · rcases List.mem_or_eq_of_mem_set hx with h2 | rfl
    · exact hB x h2
    · have := xor_byte u v
      omega
  · have e8 : firstL.length = 8 := rfl
    have e : (firstL ++ (be4 (m : Int) ++ kd ++ s4)).set p (Go.bits .xor .u8 u v) = firstL ++ (be4 (m : Int) ++ kd ++ s4.set (p - (m + 16)) (Go.bits .xor .u8 u v)) := by
      rw [List.set_append_right _ _ (by omega), List.set_append_right _ _ (by rw [List.length_append, be4_length]; omega), List.length_append, be4_length, e8, hk]
      congr 3
      omega
    rw [← e]
    exact h1
theorem turned_call {k n c0 : Nat} {A0 : Option Addr} {l0 : List Int} {a1 a2 : Int} {r : List Int} {w : World} (hn : l0.length = n) (hr0 : Kd.C (Kd.int .u8) w A0 n l0) (hc0 : n ≤ c0) (h : halftonelaw03_Turned.f k l0 a1 a2 = some r) (hr : r.length = n) :
    Calls Try.prog 18 #[.slice A0 n c0, .int .i64 a1, .int .u32 a2] w fun e w' => ∃ A c, e = .returned (.slice A n c) ∧ Kd.R (Kd.int .u8) 5 w' w.heap.size (fun _ => True) (.slice A n c) r ∧ Below w.heap.size w w' := by
  subst hn
  refine (halftonelaw03_Turned.calls k A0 c0 l0 a1 a2 r w hr0 hc0 h).mono ?_
  rintro e w' ⟨v, rfl, hR, hb⟩
  obtain ⟨A, c, rfl⟩ := Kd.R_slice hR
  rw [hr] at hR
  exact ⟨A, c, by rw [hr], hR, hb⟩
theorem same_call {W : World} {A B : Option Addr} {n c c' : Nat} {xs ys : List Int} (hx : xs.length = n) (hy : ys.length = n) (hX : Bytes xs) (hY : Bytes ys) (h1 : Kd.C (Kd.int .u8) W A n xs) (h2 : n ≤ c) (h3 : Kd.C (Kd.int .u8) W B n ys) (h4 : n ≤ c') :
    Calls Try.prog 17 #[.slice A n c, .slice B n c'] W fun e w' => e = .returned (.bool (decide (xs = ys))) ∧ Drawn0 W w' := by
  have h := halftoneref01_Same.calls A c xs B c' ys (decide (xs = ys)) W (by rw [hx]; exact h1) (by omega) (by rw [hy]; exact h3) (by omega) (same_eq hX hY)
  rw [hx, hy] at h
  exact h
theorem pack_ck {W : World} {b : Nat} {s : ByteArray} {A1 : Option Addr} {d : List Int} {c1 n : Nat} (hk : Ck ⟨s, d⟩) (hn : d.length = n) (h : W.heap[b]? = some (.cells #[.string s, .slice A1 n c1] 40 (0, 0))) (hc : n ≤ c1) (hC : Kd.C (Kd.int .u8) W A1 n d) (hl : n ≤ 2000) (hb : Bytes d) :
    Calls Try.prog 15 #[.slice (some ⟨b, 0, none⟩) 1 1] W fun e w' => ∃ A c, e = .returned (.tuple #[.slice A (n + 20) c, .int .i64 0]) ∧ Kd.R (Kd.int .u8) 5 w' W.heap.size (fun _ => True) (.slice A (n + 20) c) (packL [⟨s, d⟩]) ∧ Below W.heap.size W w' := by
  have hl2 : (packL [(⟨s, d⟩ : S40)]).length = n + 20 := by
    have e8 : firstL.length = 8 := rfl
    have e4 : (bytesOf s).length = 4 := hk.kl.1
    rw [oneL_eq]
    simp only [List.length_append, e8, be4_length, e4, hn]
    omega
  refine (pack_one hn h hc hC hl hb).mono ?_
  rintro e w' ⟨hb2, ⟨hk2, rfl⟩ | ⟨hk2, A2, c2, rfl, _, hR2⟩⟩
  · have h1 := hk.k
    simp only [List.all_cons, List.all_nil, Bool.and_true] at hk2
    rw [hk2] at h1
    cases h1
  · have h1 := hR2 (by simp)
    rw [hl2] at h1 ⊢
    exact ⟨A2, c2, rfl, h1, hb2⟩
theorem push_new {W : World} {B g b0 n c : Nat} {A : Option Addr} {U : List Int} {R : RS} {psF : List PS} (h : IsRd W B g (.slice none 0 0) RS.new) (hB : B ≤ W.heap.size) (hU : U.length = n) (hR : Kd.R (Kd.int .u8) 5 W b0 (fun _ => True) (.slice A n c) U) (hg : ∀ k, (Value.slice A n c).ownBlock = some k → k ≠ g) (hb : Bytes U) (hn : n ≤ 3000) (hrun : runM 7000 RS.new U [] = some (R, psF)) :
    Calls Try.prog 10 #[.pointer (some ⟨g, 0, none⟩), .slice A n c] W fun e w' => ∃ hv Ap N cp pcs, e = .returned (.tuple #[.slice Ap N cp, .int .i64 R.e]) ∧ IsRd w' B g hv R ∧ Kd.R kp 53 w' W.heap.size (fun _ => True) (.slice Ap N cp) pcs ∧ pcs.length = N ∧ N = psF.length ∧ (∀ t, t < N → (pcs.getD t zp).en = (psF.getD t zs).en) ∧ Kd.R (Kd.int .u8) 5 w' b0 (fun _ => True) (.slice A n c) U ∧ Below B W w' := by
  have hS : ∀ k, (Value.slice A n c).ownBlock = some k → ¬ RdS g (.slice none 0 0) k := by
    intro k hk
    rintro (rfl | e)
    · exact hg _ hk rfl
    · simp [Value.ownBlock] at e
  refine (push_walk h hB new_ok rfl A n c U hU (Kd.R_reads' hR).2.1 (C_keptR hU hR hS) hb (by omega) 7000 (by decide) hrun).mono ?_
  rintro e w' ⟨hv, ov, pcs, rfl, P⟩
  obtain ⟨Ap, cp, rfl⟩ := Kd.R_slice P.out
  refine ⟨hv, Ap, _, cp, pcs, rfl, P.rd, P.out, rfl, P.dat.len, fun t ht => (P.dat.at_ t (by rw [← P.dat.len]; exact ht)).2.2.2.1, ?_, P.bl⟩
  exact Kd.R_mono (Kd.R_kept (Kd.R_tight rfl hR) P.kp (fun k e => hS k e.symm)) (fun _ _ => trivial)
theorem uL_of {d bd sm : List Int} {m : Nat} (hm : d.length = m) : (([] ++ (firstL ++ be4 (m : Int))) ++ bd) ++ sm = uL d bd sm := by
  unfold uL
  rw [hm]
  simp [List.append_assoc]
theorem cut_four {g n c : Nat} (hc : n + 20 ≤ c) : ∀ W : World, (Instr.slice 26 (.slice (some ⟨g, 0, none⟩) (n + 20) c) (some (.int .i64 ((n : Int) + 16))) none none).run Try.prog W = .ok (.slice (some ⟨g, n + 16, none⟩) 4 (c - (n + 16))) W := by
  intro W
  obtain ⟨i0, hi0, _, hs0, _⟩ := info_parts info5
  have h := cut_from (P := Try.prog) 26 5 .i64 Try.underlying26 hi0 1 hs0 (some ⟨g, 0, none⟩) (n + 20) c ((n : Int) + 16) (by omega) (by omega) W
  have e1 : ((n : Int) + 16).toNat = n + 16 := by omega
  rw [e1, if_neg (by omega), show n + 20 - (n + 16) = 4 from by omega] at h
  have e2 : (some (⟨g, 0, none⟩ : Addr)).map (·.add ((n + 16) * 1)) = some ⟨g, n + 16, none⟩ := by
    rw [Option.map_some, Nat.mul_one, add_plain]
  rw [e2] at h
  exact h
theorem TU.bytes {s : ByteArray} {d bd sm : List Int} (h : TU s d bd sm) : Bytes (uL d bd sm) := by
  intro x hx
  unfold uL at hx
  rcases List.mem_append.1 hx with h1 | h1
  · simp [firstL] at h1
    omega
  · rcases List.mem_append.1 h1 with h1 | h1
    · rcases List.mem_append.1 h1 with h1 | h1
      · exact be4_bytes _ x h1
      · exact h.bb x h1
    · exact h.sb x h1
theorem pack_len1 {s : ByteArray} {d : List Int} {n : Nat} (hk : Ck ⟨s, d⟩) (hn : d.length = n) : (packL [(⟨s, d⟩ : S40)]).length = n + 20 := by
  have e8 : firstL.length = 8 := rfl
  have e4 : (bytesOf s).length = 4 := hk.kl.1
  rw [oneL_eq]
  simp only [List.length_append, e8, be4_length, e4, hn]
  omega
theorem pack_bytes1 {s : ByteArray} {d : List Int} (hk : Ck ⟨s, d⟩) : Bytes (packL [(⟨s, d⟩ : S40)]) := by
  have h : TU s d (bytesOf s ++ d) (be4 (moreN 0 (bytesOf s ++ d))) := TU.sum hk (be4_length _) (be4_bytes _)
  have h1 := h.bytes
  unfold uL at h1
  rw [oneL_eq]
  exact h1
set_option maxHeartbeats 4000000 in
set_option maxRecDepth 100000 in
theorem turned_row (c0 c1 : Value) (x : S40) (at_ by_ : Int) (w : World) (hk : k40.K w x [c0, c1]) (hok : (x.f0.size ≤ 140737488351232 ∧ (x.f1.length ≤ 9223372036854775807 ∧ x.f1.length * 1 ≤ 140737488351232 ∧ ∀ b ∈ x.f1, (Lit.int .u8 b).wf = true))) (hat : (Lit.int .u16 at_).wf = true) (hby : (Lit.int .u32 by_).wf = true) :
    Calls Try.prog 6 #[.agg #[c0, c1], .int .u16 at_, .int .u32 by_] w fun e w' => e = .returned (.bool true) ∧ Below w.heap.size w w' := by
  obtain ⟨A1, cc, hcs, hcc, hC⟩ := k40_open hk
  injection hcs with e0 e1
  injection e1 with e1 _
  subst e0 e1
  obtain ⟨s, d⟩ := x
  simp only at hok hcc hC
  have HD := Aside0.mk (show Bytes d from Bytes.of hok.2.2.2)
  have hm9 : d.length ≤ 140737488351232 := by have := hok.2.2.1; omega
  obtain ⟨m, hm⟩ : ∃ m, d.length = m := ⟨_, rfl⟩
  simp only at hm ⊢
  rw [hm] at hcc hC hm9 ⊢
  have HM := Aside0.mk hm
  have HC := Aside0.mk hC
  clear hk hok hm hC
  have hat' : 0 ≤ at_ ∧ at_ ≤ 65535 := by
    unfold Lit.wf at hat
    simp only [Bool.and_eq_true, decide_eq_true_eq] at hat
    exact hat
  have hby' : 0 ≤ by_ ∧ by_ ≤ 4294967295 := by
    unfold Lit.wf at hby
    simp only [Bool.and_eq_true, decide_eq_true_eq] at hby
    exact hby
  have HAT := Aside0.mk hat'
  have HBY := Aside0.mk hby'
  clear hat hby hat' hby'
  go_enter Try.func6, Try.ntmps6
  go_wp2_with fail
  refine (halftonelaw11_fixed.calls true _ rfl).mono ?_
  rintro e w1 ⟨rfl, hb1⟩
  obtain ⟨bx, hbx⟩ : ∃ bx, w.heap.size = bx := ⟨_, rfl⟩
  have HX := Aside0.mk (show w1.heap[bx]? = some (.cells #[.string s, .slice A1 m cc] 40 (0, 0)) from by subst hbx; exact (hb1.block _ (by simp)).trans (heap_alloc_new w _))
  have HB1 := Aside0.mk (show Below w.heap.size w w1 from (below_alloc (Below.refl _ _) _).trans (hb1.mono (by simp)))
  rw [hbx]
  have hx0 := blk_cell HX.out 0
  have hx1 := blk_cell HX.out 1
  have HBX := Aside0.mk hbx
  clear hb1 hbx
  by_cases h2k : 2000 < m
  · have hd0 : decide (2000 < (m : Int)) = true := decide_eq_true (by omega)
    go_wp2
    go_ret
    exact ⟨rfl, HBX.out ▸ HB1.out⟩
  · have hd0 : decide (2000 < (m : Int)) = false := decide_eq_false (by omega)
    go_wp2_with fail
    refine (pack_one HM.out (b := w1.heap.size) (heap_alloc_new w1 _) hcc (Kd.C_alloc (Kd.C_below HC.out HB1.out) _) (by omega) HD.out).mono ?_
    rintro e w2 ⟨hb2, ⟨hk, rfl⟩ | ⟨hk, A2, c2, rfl, _, hR2⟩⟩
    · go_wp2
      go_ret
      exact ⟨rfl, HB1.out.trans (((below_alloc (Below.refl _ _) _).trans (hb2.mono (by simp))).mono HB1.out.size)⟩
    · have HCK := Aside0.mk (show Ck ⟨s, d⟩ from ⟨by simpa using hk, by rw [show (S40.f1 ⟨s, d⟩) = d from rfl, HM.out]; omega, HD.out⟩)
      obtain ⟨b, hb⟩ : ∃ b, packL [⟨s, d⟩] = b := ⟨_, rfl⟩
      have HPK := Aside0.mk hb
      replace hR2 := hR2 (by simp)
      rw [hb] at hR2 ⊢
      obtain ⟨nb, hnb⟩ : ∃ nb, b.length = nb := ⟨_, rfl⟩
      have hn20 : nb = m + 20 := by
        rw [← hnb, ← hb, oneL_eq]
        have e8 : firstL.length = 8 := rfl
        simp only [List.length_append, e8, be4_length, HCK.out.kl.1, HM.out]
        omega
      rw [hnb] at hR2 ⊢
      have HNB := Aside0.mk hnb
      have HR2 := Aside0.mk (Kd.R_lower hR2 (show w1.heap.size ≤ _ from by simp))
      have HB2 := Aside0.mk (show Below w.heap.size w w2 from HB1.out.trans (((below_alloc (Below.refl _ _) _).trans (hb2.mono (by simp))).mono HB1.out.size))
      have HX2 := Aside0.mk (show w2.heap[bx]? = some (.cells #[.string s, .slice A1 m cc] 40 (0, 0)) from (hb2.block _ (by have := blk_lt HX.out; simp; omega)).trans (blk_alloc HX.out _))
      have hcc2 := (Kd.R_reads' hR2).2.1
      clear hb hk hnb hR2 hb2 hx0 hx1
      obtain ⟨q, hq, hq8⟩ : ∃ q : Nat, (wrap64 at_).tmod (8 * ((m : Int) + 20 - 16)) = (q : Int) ∧ q < 8 * (m + 4) := by
        have h1 := HAT.out
        have h2 : wrap64 at_ = at_ := by unfold wrap64; omega
        rw [h2, Int.tmod_eq_emod_of_nonneg h1.1]
        have h3 := Int.emod_nonneg at_ (show 8 * ((m : Int) + 20 - 16) ≠ 0 by omega)
        have h4 := Int.emod_lt_of_pos at_ (show 0 < 8 * ((m : Int) + 20 - 16) by omega)
        exact ⟨(at_ % (8 * ((m : Int) + 20 - 16))).toNat, by omega, by omega⟩
      subst hn20
      obtain ⟨g2, c2', e2, hR2'⟩ := rowA_form (n := m + 20) HNB.out (by omega) HR2.out
      injection e2 with e2 _ e3
      subst e2
      have hb2' := be4_length (m : Int)
      have HBD := Aside0.mk (show b = firstL ++ (be4 (m : Int) ++ (bytesOf s ++ d) ++ be4 (moreN 0 (bytesOf s ++ d))) from by rw [← HPK.out, oneL_eq, HM.out])
      have HBE := Aside0.mk (show (b.drop 12).take (m + 4) = bytesOf s ++ d from by
        rw [HBD.out, ← List.append_assoc, ← List.append_assoc, List.append_assoc (firstL ++ _), List.drop_left' (by rw [List.length_append, be4_length]; rfl), List.take_left' (by rw [List.length_append, HCK.out.kl.1, HM.out]; omega)])
      have hC18 : Kd.C (Kd.int .u8) w2 (some ⟨g2, 12, none⟩) (m + 4) (bytesOf s ++ d) := by
        have h1 := (Kd.R_reads' HR2.out).2.2
        have h2 := Kd.C_drop (m := 12) (c := c2) h1 (by rw [HNB.out]; omega) (by rw [HNB.out]; exact hcc2)
        rw [if_neg (by omega)] at h2
        have h3 := Kd.C_take (m := m + 4) h2 (by rw [List.length_drop, HNB.out]; omega)
        rw [HBE.out] at h3
        rw [List.length_append, HCK.out.kl.1, HM.out, Nat.add_comm] at h3
        exact h3
      have HKL := Aside0.mk (show (bytesOf s ++ d).length = m + 4 from by rw [List.length_append, HCK.out.kl.1, HM.out]; omega)
      have HXL := Aside0.mk (show bx < w1.heap.size from blk_lt HX.out)
      have HBB := Aside0.mk (show Bytes (bytesOf s ++ d) from fun x hx => (List.mem_append.1 hx).elim (bytesOf_Bytes s x) (HD.out x))
      obtain ⟨cT, ⟨kT, hkT⟩, hNear, hTb, hTl⟩ := ev_turned (bytesOf s ++ d) HBB.out (by rw [List.length_append, HCK.out.kl.1, HM.out]; omega) q (by rw [List.length_append, HCK.out.kl.1, HM.out]; omega) by_ HBY.out.1 (by have := HBY.out.2; omega)
      have HTL := Aside0.mk (show cT.length = m + 4 from by rw [hTl, List.length_append, HCK.out.kl.1, HM.out]; omega)
      have HTU := Aside0.mk (TU.turned HCK.out hNear hTb (by rw [HTL.out, HM.out]))
      have HKT := Aside0.mk (hkT kT (Nat.le_refl _))
      have HC18 := Aside0.mk hC18
      have HC12 := Aside0.mk (show ∀ W, Below w2.heap.size w2 W → Kd.C (Kd.int .u8) W (some ⟨g2, 12, none⟩) (m + 4) (bytesOf s ++ d) from fun W hW => Kd.C_below HC18.out hW)
      clear hkT hNear hTb hTl hC18 hb2' e3 hR2' HAT
      go_wp2_with fail
      have hc12 : m + 4 ≤ c2 - 12 := by omega
      refine (turned_call (show (bytesOf s ++ d).length = m + 4 from by rw [List.length_append, HCK.out.kl.1, HM.out]; omega) HC18.out hc12 HKT.out HTL.out).mono ?_
      rintro e w3 ⟨A3, c3, rfl, hR3, hb3⟩
      have HR3 := Aside0.mk hR3
      have HB3 := Aside0.mk hb3
      have HRb := Aside0.mk (Kd.R_below HR2.out hb3)
      have HX3 := Aside0.mk ((hb3.block _ (blk_lt HX2.out)).trans HX2.out)
      have HW3 := Aside0.mk (below_then HB2.out HB2.out.size hb3)
      clear hR3 hb3 HC18 HKT hq HX hc12
      by_cases hlast : 8 * (m + 4) - 32 ≤ q
      · have hd1 : decide (8 * ((m : Int) + 20 - 16) - 32 ≤ (q : Int)) = true := decide_eq_true (by omega)
        by_cases hodd : at_.tmod 2 = 1
        · have hd2 : (at_.tmod 2 == 1) = true := beq_iff_eq.2 hodd
          clear hodd
          go_wp2_with (first
            | ((with_reducible refine gate_dst (N := 64) rfl ?_); refine Kd.R_lit (Kd.int .u8) (w0 := w3) w3.heap.size 5 ?hg (N := 64) ?hd (xs := ([] : List Int)) (inner := []) (ok := fun _ => True) (okp := fun _ => True) ?hr ?hp (fun _ hk => hk) trivial (Below.refl _ _) (Nat.le_refl _) (by simp) ?_; (case hd => rfl); (case hg => rfl); (case hr => first | (go_simp; done) | (go_simp; rfl)); (case hp => exact (Reps.none _ _)); intro v4 w4 ho4 hb4 hg_ hnew_; clear hg_ hnew_; have HO4 := Aside0.mk ho4; have HB4 := Aside0.mk hb4; have HC4 := Aside0.mk (HC12.out w4 (below_then HB3.out HB3.out.size hb4)); clear ho4 hb4)
            | ((with_reducible refine gate_builtin (b := .append) (xs := #[.tmp 64, .tmp 69]) rfl ?_); at_builtin; go_loud (refine Kd.R_append_rows (Kd.int .u8) (w0 := w3) w3.heap.size rfl (.tmp 64) (.tmp 69) 26 5 (.int .u8 0) 1 rfl Try.underlying26 info5 rfl (by decide) (by decide) v4 [] (bytesOf s ++ d) (some ⟨g2, 12, none⟩) (m + 4) (c2 - 12) (fun _ => True) (fun _ => False) rfl rfl HO4.out HC4.out (fun _ _ h => h) (fun _ h => h.elim) (fun _ _ => trivial) HB4.out HB4.out.size (by simp; omega) ?_); intro v5 w5 ho5 hb5 hg_ hat_; clear hg_ hat_; rw [List.nil_append] at ho5; obtain ⟨A5, c5, rfl⟩ := Kd.R_slice ho5; rw [show (bytesOf s ++ d).length = m + 4 from by rw [List.length_append, HCK.out.kl.1, HM.out]; omega] at ho5 ⊢; have HO5 := Aside0.mk ho5; have HB5 := Aside0.mk hb5; clear hb5 ho5 HO4 HB4 HC4))
          have HRb5 := Aside0.mk (Kd.R_below HRb.out HB5.out)
          have HX5 := Aside0.mk ((HB5.out.block _ (blk_lt HX3.out)).trans HX3.out)
          have HW5 := Aside0.mk (below_then HW3.out HW3.out.size HB5.out)
          have HG2 := Aside0.mk (show w1.heap.size ≤ g2 ∧ g2 < w3.heap.size from ⟨Kd.R_base HRb.out g2 rfl, Kd.R_lt HRb.out g2 rfl⟩)
          clear HRb HX3 HW3 HTU HR3
          go_loopw [11] (fun i wr => ∃ j : Nat, i = .int .i64 j ∧ j ≤ 4 ∧ Aside0 (∃ s4 : List Int, s4.length = 4 ∧ Bytes s4 ∧ Kd.R (Kd.int .u8) 5 wr w1.heap.size (fun _ => True) (.slice (some ⟨g2, 0, none⟩) (m + 20) c2) (firstL ++ (be4 (m : Int) ++ (bytesOf s ++ d) ++ s4))) ∧ Aside0 (Kept w5 wr (fun k => g2 = k)) ∧ Aside0 (Below w.heap.size w wr)) (fun i _ => 4 - (intOf i).toNat)
          case atStart => exact ⟨0, rfl, by omega, ⟨⟨_, be4_length _, be4_bytes _, HBD.out ▸ HRb5.out⟩⟩, ⟨Kept.refl _ _⟩, HW5⟩
          case round =>
            obtain ⟨j, rfl, hj, HS4, HK, HBW⟩ := hrel
            by_cases hj4 : j < 4
            · obtain ⟨s4, h41, h42, h43⟩ := HS4.out
              obtain ⟨p, hp⟩ : ∃ p, m + 19 - j = p := ⟨_, rfl⟩
              have hpj : p + j = m + 19 := by omega
              have hpi : (m : Int) + 20 - 1 - (j : Int) = (p : Int) := by omega
              have hxl : (firstL ++ (be4 (m : Int) ++ (bytesOf s ++ d) ++ s4)).length = m + 20 := (Kd.R_reads' h43).1.symm
              obtain ⟨cs, hcs, hM, hcell, hfr⟩ := Kd.R_elem h43 0 (p : Int) (by omega) (by omega)
              obtain ⟨x, hx⟩ : ∃ x, (firstL ++ (be4 (m : Int) ++ (bytesOf s ++ d) ++ s4)).getD (p : Int).toNat 0 = x := ⟨_, rfl⟩
              obtain rfl : cs = [.int .u8 ((firstL ++ (be4 (m : Int) ++ (bytesOf s ++ d) ++ s4)).getD (p : Int).toNat 0)] := hM
              rw [hx] at hcell
              have hc := hcell 0 _ rfl
              have hf := hfr 0
              have e1 : (Kd.int .u8).sz = 1 := rfl
              rw [e1] at hc hf
              simp only [Int.toNat_natCast, Nat.mul_one, Nat.add_zero] at hc hf
              have H43 := Aside0.mk h43
              have H41 := Aside0.mk h41
              have H42 := Aside0.mk h42
              have HGL := Aside0.mk (show w.heap.size ≤ g2 from Nat.le_trans HB1.out.size HG2.out.1)
              have hj0 : (0 : Int) ≤ (j : Int) := by omega
              have hj4' : (j : Int) < 4 := by omega
              have hp0 : (0 : Int) ≤ (p : Int) := by omega
              have hpm : (p : Int) < (m : Int) + 20 := by omega
              clear hx HS4 hcell hfr hcs e1 hxl h41 h42 h43 hp
              go_wp2
              go_roundw
              case rel =>
                refine ⟨j + 1, by go_num, by omega, ⟨?_⟩, ⟨kept_set HK.out (p := ⟨g2, p, none⟩) rfl _⟩, ⟨HBW.out.setCell (p := ⟨g2, p, none⟩) HGL.out _⟩⟩
                exact sum_put H43.out HKL.out H41.out H42.out hpj hj4 _ _
              case measure => simp [intOf]; omega
            · obtain rfl : j = 4 := by omega
              obtain ⟨s4, h41, h42, h43⟩ := HS4.out
              obtain ⟨wv, rfl⟩ : ∃ wv : World, wv = wr := ⟨_, rfl⟩
              have HRb := Aside0.mk h43
              have HRd := Aside0.mk (Kd.R_kept (Kd.R_bound HO5.out) HK.out (fun k hk => by have := HG2.out.2; have := hk.2.1; omega))
              have HTU := Aside0.mk (TU.sum HCK.out h41 h42)
              have HXv := Aside0.mk ((HK.out.2 bx (blk_lt HX5.out) (by have := HG2.out.1; have := HXL.out; omega)).trans HX5.out)
              have HWv := HBW
              obtain ⟨sm, rfl⟩ : ∃ sm, sm = s4 := ⟨_, rfl⟩
              obtain ⟨bd, hbd⟩ : ∃ bd, bytesOf s ++ d = bd := ⟨_, rfl⟩
              rw [hbd] at HRd HTU
              clear h41 h42 h43 HS4 hbd HK HBW HO5 HX5 HRb5 HW5 HB5 HC12
              have HU0 := Aside0.mk (show (firstL ++ be4 (m : Int)).length = 12 from by rw [List.length_append, be4_length]; rfl)
              have HC1 := Aside0.mk (show ∀ W, Below wv.heap.size wv W → Kd.C (Kd.int .u8) W (some ⟨g2, 0, none⟩) 12 (firstL ++ be4 (m : Int)) from fun W hW => by
                have h1 := (Kd.R_reads' (Kd.R_below HRb.out hW)).2.2
                rw [← List.append_assoc, ← List.append_assoc, List.append_assoc (firstL ++ be4 (m : Int))] at h1
                have h2 := Kd.C_take (m := 12) h1 (by rw [List.length_append, HU0.out]; omega)
                rw [List.take_left' HU0.out, HU0.out] at h2
                exact h2)
              have HC3 := Aside0.mk (show ∀ W, Below wv.heap.size wv W → Kd.C (Kd.int .u8) W (some ⟨g2, m + 16, none⟩) 4 sm from fun W hW => by
                have h1 := (Kd.R_reads' (Kd.R_below HRb.out hW)).2.2
                have hl : (firstL ++ (be4 (m : Int) ++ (bytesOf s ++ d))).length = m + 16 := by
                  have e8 : firstL.length = 8 := rfl
                  rw [List.length_append, List.length_append, be4_length, HKL.out, e8]; omega
                rw [← List.append_assoc] at h1
                have h2 := Kd.C_drop (m := m + 16) (c := c2) h1 (by rw [List.length_append, hl]; omega) (by rw [List.length_append, hl, HTU.out.sl]; omega)
                rw [if_neg (by omega), List.drop_left' hl, HTU.out.sl] at h2
                have e2 : (some (⟨g2, 0, none⟩ : Addr)).map (·.add ((m + 16) * (Kd.int .u8).sz)) = some ⟨g2, m + 16, none⟩ := by
                  rw [Option.map_some, show (Kd.int .u8).sz = 1 from rfl, Nat.mul_one, add_plain]
                rw [e2] at h2
                exact h2)
              have HBL := Aside0.mk (show bd.length = m + 4 from by rw [HTU.out.bl, HM.out])
              have HCd := Aside0.mk (show ∀ W, Below wv.heap.size wv W → m + 4 ≤ c5 ∧ Kd.C (Kd.int .u8) W A5 (m + 4) bd from fun W hW => by
                have h1 := Kd.R_reads' (Kd.R_below HRd.out hW)
                have h2 := h1.2.2
                rw [HBL.out] at h2
                exact ⟨h1.2.1, h2⟩)
              have hcut := cut_four (g := g2) hcc2
              have hc5 := (HCd.out wv (Below.refl _ _)).1
              have h12c : (12 : Int) ≤ (c2 : Int) := by omega
              have hwc : wrap64 ((m : Int) + 20 - 4) = (m : Int) + 16 := by unfold wrap64; omega
              clear hcc2
              have HBd := Aside0.mk (below_drew (Below.refl wv.heap.size wv))
              go_wp2_with fail
              refine start_ (n := 13) (S := fun _ => True) (ds := []) #[false, false, false, false, false, false, false, false, false, false, false, false, false] (by kernel_rfl) rfl rfl trivial (fun hHeld => ?_)
              generalize wv.drew = wd at HBd ⊢
              refine pure_ (i := 1) (N := some 92) (v := ?_) (a' := ?_) #[false, true, false, false, false, false, false, false, false, false, false, false, false] rfl rfl (by kernel_rfl) (fun _ _ _ h => h) (Or.inl ⟨by rfl, ?_⟩) ?_ ?_
              rotate_left
              · intro w'
                go_simp
                with_reducible rfl
              rotate_left
              · simp only [Act.put, List.setIfInBounds_toArray, List.set_cons_zero, List.set_cons_succ, i64_w, i32_w]
                rfl
              refine pure_ (i := 2) (N := some 93) (v := ?_) (a' := ?_) #[false, true, true, false, false, false, false, false, false, false, false, false, false] rfl rfl (by kernel_rfl) (fun _ _ _ h => h) (Or.inl ⟨by rfl, ?_⟩) ?_ ?_
              rotate_left
              · intro w'
                go_simp
                with_reducible rfl
              rotate_left
              · simp only [Act.put, List.setIfInBounds_toArray, List.set_cons_zero, List.set_cons_succ, i64_w, i32_w]
                rfl
              refine pure_ (i := 4) (N := some 95) (v := ?_) (a' := ?_) #[false, true, true, false, true, false, false, false, false, false, false, false, false] rfl rfl (by kernel_rfl) (fun _ _ _ h => h) (Or.inl ⟨by rfl, ?_⟩) ?_ ?_
              rotate_left
              · intro w'
                go_simp
                with_reducible rfl
              rotate_left
              · simp only [Act.put, List.setIfInBounds_toArray, List.set_cons_zero, List.set_cons_succ, i64_w, i32_w]
                rfl
              refine pure_ (i := 6) (N := some 97) (v := ?_) (a' := ?_) #[false, true, true, false, true, false, true, false, false, false, false, false, false] rfl rfl (by kernel_rfl) (fun _ _ _ h => h) (Or.inl ⟨by rfl, ?_⟩) ?_ ?_
              rotate_left
              · intro w'
                go_simp
                with_reducible rfl
              rotate_left
              · simp only [Act.put, List.setIfInBounds_toArray, List.set_cons_zero, List.set_cons_succ, i64_w, i32_w]
                rfl
              refine pure_ (i := 7) (N := some 98) (v := ?_) (a' := ?_) #[false, true, true, false, true, false, true, true, false, false, false, false, false] rfl rfl (by kernel_rfl) (fun _ _ _ h => h) (Or.inl ⟨by rfl, ?_⟩) ?_ ?_
              rotate_left
              · intro w'
                go_simp
                with_reducible rfl
              rotate_left
              · simp only [Act.put, List.setIfInBounds_toArray, List.set_cons_zero, List.set_cons_succ, i64_w, i32_w]
                rfl
              refine pure_ (i := 8) (N := some 99) (v := ?_) (a' := ?_) #[false, true, true, false, true, false, true, true, true, false, false, false, false] rfl rfl (by kernel_rfl) (fun _ _ _ h => h) (Or.inl ⟨by rfl, ?_⟩) ?_ ?_
              rotate_left
              · intro w'
                go_simp
                with_reducible rfl
              rotate_left
              · simp only [Act.put, List.setIfInBounds_toArray, List.set_cons_zero, List.set_cons_succ, i64_w, i32_w]
                rfl
              refine pure_ (i := 9) (N := some 100) (v := ?_) (a' := ?_) #[false, true, true, false, true, false, true, true, true, true, false, false, false] rfl rfl (by kernel_rfl) (fun _ _ _ h => h) (Or.inl ⟨by rfl, ?_⟩) ?_ ?_
              rotate_left
              · intro w'
                go_simp
                with_reducible rfl
              rotate_left
              · simp only [Act.put, List.setIfInBounds_toArray, List.set_cons_zero, List.set_cons_succ, i64_w, i32_w]
                rfl
              refine pure_ (i := 10) (N := some 101) (v := ?_) (a' := ?_) #[false, true, true, false, true, false, true, true, true, true, true, false, false] rfl rfl (by kernel_rfl) (fun _ _ _ h => h) (Or.inl ⟨by rfl, ?_⟩) ?_ ?_
              rotate_left
              · intro w'
                go_simp
                with_reducible rfl
              rotate_left
              · simp only [Act.put, List.setIfInBounds_toArray, List.set_cons_zero, List.set_cons_succ, i64_w, i32_w]
                rfl
              refine one_ (i := 0) (N := some 91) #[true, true, true, false, true, false, true, true, true, true, true, false, false] rfl rfl (by kernel_rfl) (by decide) (fun K hK => ?_)
              refine value_ (w1 := wd.alloc (.cells #[] 5)) (v := .slice (some ⟨wd.heap.size, 0, none⟩) 0 0) (by rfl) rfl ?_ ?_
              · go_simp
              refine hK.out _ _ trivial (fun _ => ?_)
              clear hK K
              refine norm_ (a' := ?_) ?_ ?_
              rotate_left
              · show Act.put _ (some 91) _ = _
                simp only [Act.put, List.setIfInBounds_toArray, List.set_cons_zero, List.set_cons_succ, i64_w, i32_w]
                rfl
              have hO6 : Kd.R (Kd.int .u8) 5 (wd.alloc (.cells #[] 5)) wv.heap.size (fun _ => True) (.slice (some ⟨wd.heap.size, 0, none⟩) 0 0) [] := Kd.R_mono (Kd.R_lower (lit_R (Kd.int .u8) (heap_alloc_new wd _) (Nat.le_refl _)) HBd.out.size) (fun _ _ => trivial)
              have hB6 : Below wv.heap.size wv (wd.alloc (.cells #[] 5)) := below_alloc HBd.out _
              refine one_ (i := 3) (N := some 94) #[true, true, true, true, true, false, true, true, true, true, true, false, false] rfl rfl (by kernel_rfl) (by decide) (fun K hK => ?_)
              refine Kd.R_append_rows_step (Kd.int .u8) (w0 := wv) wv.heap.size (by rfl) (.tmp 91) (.tmp 93) 26 5 (.int .u8 0) 1 rfl Try.underlying26 info5 rfl (by decide) (by decide) (.slice (some ⟨wd.heap.size, 0, none⟩) 0 0) ([]) (firstL ++ be4 (m : Int)) (some ⟨g2, 0, none⟩) (12) (c2) (fun _ => True) (fun _ => False) (by rfl) (by rfl) hO6 (HC1.out _ hB6) (fun _ _ h => h) (fun _ h => h.elim) (fun _ _ => trivial) hB6 hB6.size (by decide) ?_
              intro v7 w7 hO7 hB7 hg_ hat_
              clear hg_ hat_
              refine hK.out _ _ trivial (fun _ => ?_)
              clear hK K
              refine norm_ (a' := ?_) ?_ ?_
              rotate_left
              · show Act.put _ (some 94) _ = _
                simp only [Act.put, List.setIfInBounds_toArray, List.set_cons_zero, List.set_cons_succ, i64_w, i32_w]
                rfl
              refine one_ (i := 5) (N := some 96) #[true, true, true, true, true, true, true, true, true, true, true, false, false] rfl rfl (by kernel_rfl) (by decide) (fun K hK => ?_)
              refine Kd.R_append_rows_step (Kd.int .u8) (w0 := wv) wv.heap.size (by rfl) (.tmp 94) (.tmp 95) 26 5 (.int .u8 0) 1 rfl Try.underlying26 info5 rfl (by decide) (by decide) (v7) ([] ++ (firstL ++ be4 (m : Int))) (bd) (A5) (m + 4) (c5) (fun _ => True) (fun _ => False) (by rfl) (by rfl) hO7 ((HCd.out _ hB7).2) (fun _ _ h => h) (fun _ h => h.elim) (fun _ _ => trivial) hB7 hB7.size (by rw [List.nil_append, HU0.out]; omega) ?_
              intro v8 w8 hO8 hB8 hg_ hat_
              clear hg_ hat_
              refine hK.out _ _ trivial (fun _ => ?_)
              clear hK K
              refine norm_ (a' := ?_) ?_ ?_
              rotate_left
              · show Act.put _ (some 96) _ = _
                simp only [Act.put, List.setIfInBounds_toArray, List.set_cons_zero, List.set_cons_succ, i64_w, i32_w]
                rfl
              refine one_ (i := 11) (N := some 102) #[true, true, true, true, true, true, true, true, true, true, true, true, false] rfl rfl (by kernel_rfl) (by decide) (fun K hK => ?_)
              refine Kd.R_append_rows_step (Kd.int .u8) (w0 := wv) wv.heap.size (by rfl) (.tmp 96) (.tmp 101) 26 5 (.int .u8 0) 1 rfl Try.underlying26 info5 rfl (by decide) (by decide) (v8) (([] ++ (firstL ++ be4 (m : Int))) ++ bd) (sm) (some ⟨g2, m + 16, none⟩) (4) (c2 - (m + 16)) (fun _ => True) (fun _ => False) (by rfl) (by rfl) hO8 (HC3.out _ hB8) (fun _ _ h => h) (fun _ h => h.elim) (fun _ _ => trivial) hB8 hB8.size (by rw [List.nil_append, List.length_append, HU0.out, HBL.out]; omega) ?_
              intro v9 w9 hO9 hB9 hg_ hat_
              clear hg_ hat_
              refine hK.out _ _ trivial (fun _ => ?_)
              clear hK K
              refine norm_ (a' := ?_) ?_ ?_
              rotate_left
              · show Act.put _ (some 102) _ = _
                simp only [Act.put, List.setIfInBounds_toArray, List.set_cons_zero, List.set_cons_succ, i64_w, i32_w]
                rfl
              rw [uL_of HM.out] at hO9
              have hUl : (uL d bd sm).length = m + 20 := by
                rw [← uL_of HM.out, List.nil_append, List.length_append, List.length_append, HU0.out, HBL.out, HTU.out.sl]; omega
              refine pure_ (i := 12) (N := some 12) (v := ?_) (a' := ?_) #[true, true, true, true, true, true, true, true, true, true, true, true, true] rfl rfl (by kernel_rfl) (fun _ _ _ h => h) (Or.inl ⟨by rfl, ?_⟩) ?_ ?_
              rotate_left
              · intro w'
                go_simp
                with_reducible rfl
              rotate_left
              · simp only [Act.put, List.setIfInBounds_toArray, List.set_cons_zero, List.set_cons_succ, i64_w, i32_w]
                rfl
              refine done_ (by kernel_rfl) ?_
              clear hO6 hB6 hO7 hB7 hO8 hB8 hcut
              obtain ⟨A9, c9, rfl⟩ := Kd.R_slice hO9
              rw [hUl] at hO9 ⊢
              have HUL := Aside0.mk hUl
              have HO9 := Aside0.mk hO9
              have HB9 := Aside0.mk hB9
              have HX9 := Aside0.mk ((hB9.block _ (blk_lt HXv.out)).trans HXv.out)
              have hx0 := blk_cell HX9.out 0
              have hx1 := blk_cell HX9.out 1
              clear hO9 hB9 hUl
              go_wp2_with fail
              have HWx := Aside0.mk (below_then HWv.out HWv.out.size HB9.out)
              refine (pack_ck HCK.out HM.out (b := w9.heap.size) (heap_alloc_new w9 _) hcc (Kd.C_alloc (Kd.C_below HC.out HWx.out) _) (by omega) HD.out).mono ?_
              rintro e w10 ⟨A10, c10, rfl, hR10, hb10⟩
              have HB10 := Aside0.mk (show Below w9.heap.size w9 w10 from (below_alloc (Below.refl _ _) _).trans (hb10.mono (by simp)))
              have HR10 := Aside0.mk hR10
              have HO10 := Aside0.mk (Kd.R_below HO9.out HB10.out)
              have HW10 := Aside0.mk (below_then HWx.out HWx.out.size HB10.out)
              clear hR10 hb10 hx0 hx1 h12c hwc
              go_wp2_with fail
              refine (fx_new w10 w10.heap.size (Nat.le_refl _)).mono ?_
              rintro e w11 ⟨g, rfl, hg, hI11, hb11⟩
              have HI11 := Aside0.mk hI11
              have HB11 := Aside0.mk hb11
              have HO11 := Aside0.mk (Kd.R_below HO10.out hb11)
              have HG11 := Aside0.mk (show ∀ k, (Value.slice A9 (m + 20) c9).ownBlock = some k → k ≠ g from fun k hk => by have := Kd.R_lt HO10.out k hk; omega)
              have HUB := Aside0.mk HTU.out.bytes
              obtain ⟨R, psF, hrun, hpl, hor⟩ := push_tu HCK.out (by rw [HM.out]; omega) HTU.out
              have HRUN := Aside0.mk hrun
              have HOR := Aside0.mk hor
              have HPL := Aside0.mk hpl
              clear hI11 hb11 hg hrun hor hpl
              go_wp2_with fail
              refine (push_new HI11.out HB11.out.size HUL.out HO11.out HG11.out HUB.out (by omega) HRUN.out).mono ?_
              rintro e w12 ⟨hv, Ap, N, cp, pcs, rfl, hI12, hP12, hN, hNp, hen, hO12, hb12⟩
              have HI12 := Aside0.mk hI12
              have HP12 := Aside0.mk hP12
              have HN := Aside0.mk hN
              have HEN := Aside0.mk hen
              have HNP := Aside0.mk hNp
              have HB12 := Aside0.mk (HB11.out.trans hb12)
              have HW12 := Aside0.mk (below_then HW10.out HW10.out.size HB12.out)
              have HL10 := Aside0.mk (pack_len1 HCK.out HM.out)
              have HBK := Aside0.mk (pack_bytes1 HCK.out)
              have HCA := Aside0.mk (show m + 20 ≤ c9 ∧ Kd.C (Kd.int .u8) w12 A9 (m + 20) (uL d bd sm) from by
                have h1 := Kd.R_reads' hO12
                have h2 := h1.2.2
                rw [HUL.out] at h2
                exact ⟨h1.2.1, h2⟩)
              have HCB := Aside0.mk (show m + 20 ≤ c10 ∧ Kd.C (Kd.int .u8) w12 A10 (m + 20) (packL [⟨s, d⟩]) from by
                have h1 := Kd.R_reads' (Kd.R_below HR10.out HB12.out)
                have h2 := h1.2.2
                rw [HL10.out] at h2
                exact ⟨h1.2.1, h2⟩)
              have hN7 : N ≤ 7000 := by rw [hNp]; exact HPL.out
              clear hI12 hP12 hN hen hNp hO12 hb12
              go_wp2_with fail
              refine (same_call HUL.out HL10.out HUB.out HBK.out HCA.out.2 HCA.out.1 HCB.out.2 HCB.out.1).mono ?_
              rintro e w13 ⟨rfl, q7, rfl⟩
              rcases HOR.out with ⟨heq, hR0, hbt⟩ | ⟨hne, hRe, hpe, hbt⟩
              · rw [decide_eq_true heq, hR0]
                have HBT := Aside0.mk hbt
                clear heq hR0 hbt
                go_wp2_with fail
                refine (between_walk (HI12.out.ext (pw_below_drewN (Below.refl _ _) q7))).mono ?_
                rintro e w14 ⟨rfl, rfl⟩
                rw [HBT.out]
                go_wp2
                go_ret
                exact ⟨rfl, pw_below_drewN HW12.out q7⟩
              · rw [decide_eq_false hne]
                have HBT := Aside0.mk hbt
                have HPE := Aside0.mk hpe
                clear hne hbt hpe
                obtain ⟨wy, hwy⟩ : ∃ wy, w12.drewN q7 = wy := ⟨_, rfl⟩
                have HPy := Aside0.mk (show Kd.R kp 53 wy w11.heap.size (fun _ => True) (.slice Ap N cp) pcs from by rw [← hwy]; exact Kd.R_below HP12.out (pw_below_drewN (Below.refl _ _) q7))
                have HIy := Aside0.mk (show IsRd wy w10.heap.size g hv R from by rw [← hwy]; exact HI12.out.ext (pw_below_drewN (Below.refl _ _) q7))
                have HWy := Aside0.mk (show Below w.heap.size w wy from by rw [← hwy]; exact pw_below_drewN HW12.out q7)
                rw [hwy]
                clear hwy
                go_wp2
                go_loopw [127, 19] (fun i u wr => ∃ (t : Nat) (u19 : Value), u19 = u ∧ i = .int .i64 t ∧ t ≤ N ∧ Aside0 (Below wy.heap.size wy wr)) (fun i _ _ => N - (intOf i).toNat)
                case atStart => exact ⟨0, _, rfl, rfl, Nat.zero_le _, ⟨Below.refl _ _⟩⟩
                case round =>
                  obtain ⟨t, u, rfl, rfl, ht, HBz⟩ := hrel
                  by_cases htN : t < N
                  · obtain ⟨go, c9', e9, hPr⟩ := rowA_form HN.out (by omega) (Kd.R_below HPy.out HBz.out)
                    injection e9 with e9 _ _
                    subst e9
                    obtain ⟨⟨h0, h1, h2, h3, h4⟩, hfz⟩ := pc_at hPr t htN
                    have h5 : (pcs.getD t zp).en = false := by
                      rw [HEN.out t htN]
                      refine HPE.out _ ?_
                      rw [List.getD_eq_getElem?_getD, List.getElem?_eq_getElem (by rw [← HNP.out]; exact htN)]
                      exact List.getElem_mem _
                    rw [h5] at h4
                    have htn : (t : Int) < (N : Int) := by omega
                    clear h5 hPr hfz
                    go_wp2
                    go_roundw
                    case rel => exact ⟨t + 1, _, rfl, by go_num, by omega, ⟨by (first | exact below_alloc HBz.out _ | exact pw_below_drewN (below_alloc HBz.out _) _)⟩⟩
                    case measure => simp [intOf]; omega
                  · obtain rfl : N = t := by omega
                    have HIz := Aside0.mk (HIy.out.ext HBz.out)
                    have HWz := Aside0.mk (below_then HWy.out HWy.out.size HBz.out)
                    rcases hRe with hRe | hRe
                    · rw [hRe]
                      go_wp2_with fail
                      refine (between_walk HIz.out).mono ?_
                      rintro e w14 ⟨rfl, rfl⟩
                      rw [HBT.out]
                      go_wp2
                      go_ret
                      exact ⟨rfl, HWz.out⟩
                    · rw [hRe]
                      go_wp2_with fail
                      refine (between_walk HIz.out).mono ?_
                      rintro e w14 ⟨rfl, rfl⟩
                      rw [HBT.out]
                      go_wp2
                      go_ret
                      exact ⟨rfl, HWz.out⟩
        · have hd2 : (at_.tmod 2 == 1) = false := beq_eq_false_iff_ne.2 hodd
          clear hodd
          obtain ⟨A5, rfl⟩ : ∃ A5, A5 = A3 := ⟨_, rfl⟩
          obtain ⟨c5, rfl⟩ : ∃ c5, c5 = c3 := ⟨_, rfl⟩
          obtain ⟨bd, rfl⟩ : ∃ bd, bd = cT := ⟨_, rfl⟩
          obtain ⟨wv, rfl⟩ : ∃ wv : World, wv = w3 := ⟨_, rfl⟩
          have HRd := HR3
          have HXv := HX3
          have HWv := HW3
          obtain ⟨sm, hsm⟩ : ∃ sm, be4 (moreN 0 (bytesOf s ++ d)) = sm := ⟨_, rfl⟩
          rw [hsm] at HBD HTU
          rw [HBD.out] at HRb
          have HSM := Aside0.mk hsm
          clear hsm HR3 HX3 HW3
          have HU0 := Aside0.mk (show (firstL ++ be4 (m : Int)).length = 12 from by rw [List.length_append, be4_length]; rfl)
          have HC1 := Aside0.mk (show ∀ W, Below wv.heap.size wv W → Kd.C (Kd.int .u8) W (some ⟨g2, 0, none⟩) 12 (firstL ++ be4 (m : Int)) from fun W hW => by
            have h1 := (Kd.R_reads' (Kd.R_below HRb.out hW)).2.2
            rw [← List.append_assoc, ← List.append_assoc, List.append_assoc (firstL ++ be4 (m : Int))] at h1
            have h2 := Kd.C_take (m := 12) h1 (by rw [List.length_append, HU0.out]; omega)
            rw [List.take_left' HU0.out, HU0.out] at h2
            exact h2)
          have HC3 := Aside0.mk (show ∀ W, Below wv.heap.size wv W → Kd.C (Kd.int .u8) W (some ⟨g2, m + 16, none⟩) 4 sm from fun W hW => by
            have h1 := (Kd.R_reads' (Kd.R_below HRb.out hW)).2.2
            have hl : (firstL ++ (be4 (m : Int) ++ (bytesOf s ++ d))).length = m + 16 := by
              have e8 : firstL.length = 8 := rfl
              rw [List.length_append, List.length_append, be4_length, HKL.out, e8]; omega
            rw [← List.append_assoc] at h1
            have h2 := Kd.C_drop (m := m + 16) (c := c2) h1 (by rw [List.length_append, hl]; omega) (by rw [List.length_append, hl, HTU.out.sl]; omega)
            rw [if_neg (by omega), List.drop_left' hl, HTU.out.sl] at h2
            have e2 : (some (⟨g2, 0, none⟩ : Addr)).map (·.add ((m + 16) * (Kd.int .u8).sz)) = some ⟨g2, m + 16, none⟩ := by
              rw [Option.map_some, show (Kd.int .u8).sz = 1 from rfl, Nat.mul_one, add_plain]
            rw [e2] at h2
            exact h2)
          have HBL := Aside0.mk (show bd.length = m + 4 from by rw [HTU.out.bl, HM.out])
          have HCd := Aside0.mk (show ∀ W, Below wv.heap.size wv W → m + 4 ≤ c5 ∧ Kd.C (Kd.int .u8) W A5 (m + 4) bd from fun W hW => by
            have h1 := Kd.R_reads' (Kd.R_below HRd.out hW)
            have h2 := h1.2.2
            rw [HBL.out] at h2
            exact ⟨h1.2.1, h2⟩)
          have hcut := cut_four (g := g2) hcc2
          have hc5 := (HCd.out wv (Below.refl _ _)).1
          have h12c : (12 : Int) ≤ (c2 : Int) := by omega
          have hwc : wrap64 ((m : Int) + 20 - 4) = (m : Int) + 16 := by unfold wrap64; omega
          clear hcc2
          have HBd := Aside0.mk (below_drew (Below.refl wv.heap.size wv))
          go_wp2_with fail
          refine start_ (n := 13) (S := fun _ => True) (ds := []) #[false, false, false, false, false, false, false, false, false, false, false, false, false] (by kernel_rfl) rfl rfl trivial (fun hHeld => ?_)
          generalize wv.drew = wd at HBd ⊢
          refine pure_ (i := 1) (N := some 92) (v := ?_) (a' := ?_) #[false, true, false, false, false, false, false, false, false, false, false, false, false] rfl rfl (by kernel_rfl) (fun _ _ _ h => h) (Or.inl ⟨by rfl, ?_⟩) ?_ ?_
          rotate_left
          · intro w'
            go_simp
            with_reducible rfl
          rotate_left
          · simp only [Act.put, List.setIfInBounds_toArray, List.set_cons_zero, List.set_cons_succ, i64_w, i32_w]
            rfl
          refine pure_ (i := 2) (N := some 93) (v := ?_) (a' := ?_) #[false, true, true, false, false, false, false, false, false, false, false, false, false] rfl rfl (by kernel_rfl) (fun _ _ _ h => h) (Or.inl ⟨by rfl, ?_⟩) ?_ ?_
          rotate_left
          · intro w'
            go_simp
            with_reducible rfl
          rotate_left
          · simp only [Act.put, List.setIfInBounds_toArray, List.set_cons_zero, List.set_cons_succ, i64_w, i32_w]
            rfl
          refine pure_ (i := 4) (N := some 95) (v := ?_) (a' := ?_) #[false, true, true, false, true, false, false, false, false, false, false, false, false] rfl rfl (by kernel_rfl) (fun _ _ _ h => h) (Or.inl ⟨by rfl, ?_⟩) ?_ ?_
          rotate_left
          · intro w'
            go_simp
            with_reducible rfl
          rotate_left
          · simp only [Act.put, List.setIfInBounds_toArray, List.set_cons_zero, List.set_cons_succ, i64_w, i32_w]
            rfl
          refine pure_ (i := 6) (N := some 97) (v := ?_) (a' := ?_) #[false, true, true, false, true, false, true, false, false, false, false, false, false] rfl rfl (by kernel_rfl) (fun _ _ _ h => h) (Or.inl ⟨by rfl, ?_⟩) ?_ ?_
          rotate_left
          · intro w'
            go_simp
            with_reducible rfl
          rotate_left
          · simp only [Act.put, List.setIfInBounds_toArray, List.set_cons_zero, List.set_cons_succ, i64_w, i32_w]
            rfl
          refine pure_ (i := 7) (N := some 98) (v := ?_) (a' := ?_) #[false, true, true, false, true, false, true, true, false, false, false, false, false] rfl rfl (by kernel_rfl) (fun _ _ _ h => h) (Or.inl ⟨by rfl, ?_⟩) ?_ ?_
          rotate_left
          · intro w'
            go_simp
            with_reducible rfl
          rotate_left
          · simp only [Act.put, List.setIfInBounds_toArray, List.set_cons_zero, List.set_cons_succ, i64_w, i32_w]
            rfl
          refine pure_ (i := 8) (N := some 99) (v := ?_) (a' := ?_) #[false, true, true, false, true, false, true, true, true, false, false, false, false] rfl rfl (by kernel_rfl) (fun _ _ _ h => h) (Or.inl ⟨by rfl, ?_⟩) ?_ ?_
          rotate_left
          · intro w'
            go_simp
            with_reducible rfl
          rotate_left
          · simp only [Act.put, List.setIfInBounds_toArray, List.set_cons_zero, List.set_cons_succ, i64_w, i32_w]
            rfl
          refine pure_ (i := 9) (N := some 100) (v := ?_) (a' := ?_) #[false, true, true, false, true, false, true, true, true, true, false, false, false] rfl rfl (by kernel_rfl) (fun _ _ _ h => h) (Or.inl ⟨by rfl, ?_⟩) ?_ ?_
          rotate_left
          · intro w'
            go_simp
            with_reducible rfl
          rotate_left
          · simp only [Act.put, List.setIfInBounds_toArray, List.set_cons_zero, List.set_cons_succ, i64_w, i32_w]
            rfl
          refine pure_ (i := 10) (N := some 101) (v := ?_) (a' := ?_) #[false, true, true, false, true, false, true, true, true, true, true, false, false] rfl rfl (by kernel_rfl) (fun _ _ _ h => h) (Or.inl ⟨by rfl, ?_⟩) ?_ ?_
          rotate_left
          · intro w'
            go_simp
            with_reducible rfl
          rotate_left
          · simp only [Act.put, List.setIfInBounds_toArray, List.set_cons_zero, List.set_cons_succ, i64_w, i32_w]
            rfl
          refine one_ (i := 0) (N := some 91) #[true, true, true, false, true, false, true, true, true, true, true, false, false] rfl rfl (by kernel_rfl) (by decide) (fun K hK => ?_)
          refine value_ (w1 := wd.alloc (.cells #[] 5)) (v := .slice (some ⟨wd.heap.size, 0, none⟩) 0 0) (by rfl) rfl ?_ ?_
          · go_simp
          refine hK.out _ _ trivial (fun _ => ?_)
          clear hK K
          refine norm_ (a' := ?_) ?_ ?_
          rotate_left
          · show Act.put _ (some 91) _ = _
            simp only [Act.put, List.setIfInBounds_toArray, List.set_cons_zero, List.set_cons_succ, i64_w, i32_w]
            rfl
          have hO6 : Kd.R (Kd.int .u8) 5 (wd.alloc (.cells #[] 5)) wv.heap.size (fun _ => True) (.slice (some ⟨wd.heap.size, 0, none⟩) 0 0) [] := Kd.R_mono (Kd.R_lower (lit_R (Kd.int .u8) (heap_alloc_new wd _) (Nat.le_refl _)) HBd.out.size) (fun _ _ => trivial)
          have hB6 : Below wv.heap.size wv (wd.alloc (.cells #[] 5)) := below_alloc HBd.out _
          refine one_ (i := 3) (N := some 94) #[true, true, true, true, true, false, true, true, true, true, true, false, false] rfl rfl (by kernel_rfl) (by decide) (fun K hK => ?_)
          refine Kd.R_append_rows_step (Kd.int .u8) (w0 := wv) wv.heap.size (by rfl) (.tmp 91) (.tmp 93) 26 5 (.int .u8 0) 1 rfl Try.underlying26 info5 rfl (by decide) (by decide) (.slice (some ⟨wd.heap.size, 0, none⟩) 0 0) ([]) (firstL ++ be4 (m : Int)) (some ⟨g2, 0, none⟩) (12) (c2) (fun _ => True) (fun _ => False) (by rfl) (by rfl) hO6 (HC1.out _ hB6) (fun _ _ h => h) (fun _ h => h.elim) (fun _ _ => trivial) hB6 hB6.size (by decide) ?_
          intro v7 w7 hO7 hB7 hg_ hat_
          clear hg_ hat_
          refine hK.out _ _ trivial (fun _ => ?_)
          clear hK K
          refine norm_ (a' := ?_) ?_ ?_
          rotate_left
          · show Act.put _ (some 94) _ = _
            simp only [Act.put, List.setIfInBounds_toArray, List.set_cons_zero, List.set_cons_succ, i64_w, i32_w]
            rfl
          refine one_ (i := 5) (N := some 96) #[true, true, true, true, true, true, true, true, true, true, true, false, false] rfl rfl (by kernel_rfl) (by decide) (fun K hK => ?_)
          refine Kd.R_append_rows_step (Kd.int .u8) (w0 := wv) wv.heap.size (by rfl) (.tmp 94) (.tmp 95) 26 5 (.int .u8 0) 1 rfl Try.underlying26 info5 rfl (by decide) (by decide) (v7) ([] ++ (firstL ++ be4 (m : Int))) (bd) (A5) (m + 4) (c5) (fun _ => True) (fun _ => False) (by rfl) (by rfl) hO7 ((HCd.out _ hB7).2) (fun _ _ h => h) (fun _ h => h.elim) (fun _ _ => trivial) hB7 hB7.size (by rw [List.nil_append, HU0.out]; omega) ?_
          intro v8 w8 hO8 hB8 hg_ hat_
          clear hg_ hat_
          refine hK.out _ _ trivial (fun _ => ?_)
          clear hK K
          refine norm_ (a' := ?_) ?_ ?_
          rotate_left
          · show Act.put _ (some 96) _ = _
            simp only [Act.put, List.setIfInBounds_toArray, List.set_cons_zero, List.set_cons_succ, i64_w, i32_w]
            rfl
          refine one_ (i := 11) (N := some 102) #[true, true, true, true, true, true, true, true, true, true, true, true, false] rfl rfl (by kernel_rfl) (by decide) (fun K hK => ?_)
          refine Kd.R_append_rows_step (Kd.int .u8) (w0 := wv) wv.heap.size (by rfl) (.tmp 96) (.tmp 101) 26 5 (.int .u8 0) 1 rfl Try.underlying26 info5 rfl (by decide) (by decide) (v8) (([] ++ (firstL ++ be4 (m : Int))) ++ bd) (sm) (some ⟨g2, m + 16, none⟩) (4) (c2 - (m + 16)) (fun _ => True) (fun _ => False) (by rfl) (by rfl) hO8 (HC3.out _ hB8) (fun _ _ h => h) (fun _ h => h.elim) (fun _ _ => trivial) hB8 hB8.size (by rw [List.nil_append, List.length_append, HU0.out, HBL.out]; omega) ?_
          intro v9 w9 hO9 hB9 hg_ hat_
          clear hg_ hat_
          refine hK.out _ _ trivial (fun _ => ?_)
          clear hK K
          refine norm_ (a' := ?_) ?_ ?_
          rotate_left
          · show Act.put _ (some 102) _ = _
            simp only [Act.put, List.setIfInBounds_toArray, List.set_cons_zero, List.set_cons_succ, i64_w, i32_w]
            rfl
          rw [uL_of HM.out] at hO9
          have hUl : (uL d bd sm).length = m + 20 := by
            rw [← uL_of HM.out, List.nil_append, List.length_append, List.length_append, HU0.out, HBL.out, HTU.out.sl]; omega
          refine pure_ (i := 12) (N := some 12) (v := ?_) (a' := ?_) #[true, true, true, true, true, true, true, true, true, true, true, true, true] rfl rfl (by kernel_rfl) (fun _ _ _ h => h) (Or.inl ⟨by rfl, ?_⟩) ?_ ?_
          rotate_left
          · intro w'
            go_simp
            with_reducible rfl
          rotate_left
          · simp only [Act.put, List.setIfInBounds_toArray, List.set_cons_zero, List.set_cons_succ, i64_w, i32_w]
            rfl
          refine done_ (by kernel_rfl) ?_
          clear hO6 hB6 hO7 hB7 hO8 hB8 hcut
          obtain ⟨A9, c9, rfl⟩ := Kd.R_slice hO9
          rw [hUl] at hO9 ⊢
          have HUL := Aside0.mk hUl
          have HO9 := Aside0.mk hO9
          have HB9 := Aside0.mk hB9
          have HX9 := Aside0.mk ((hB9.block _ (blk_lt HXv.out)).trans HXv.out)
          have hx0 := blk_cell HX9.out 0
          have hx1 := blk_cell HX9.out 1
          clear hO9 hB9 hUl
          go_wp2_with fail
          have HWx := Aside0.mk (below_then HWv.out HWv.out.size HB9.out)
          refine (pack_ck HCK.out HM.out (b := w9.heap.size) (heap_alloc_new w9 _) hcc (Kd.C_alloc (Kd.C_below HC.out HWx.out) _) (by omega) HD.out).mono ?_
          rintro e w10 ⟨A10, c10, rfl, hR10, hb10⟩
          have HB10 := Aside0.mk (show Below w9.heap.size w9 w10 from (below_alloc (Below.refl _ _) _).trans (hb10.mono (by simp)))
          have HR10 := Aside0.mk hR10
          have HO10 := Aside0.mk (Kd.R_below HO9.out HB10.out)
          have HW10 := Aside0.mk (below_then HWx.out HWx.out.size HB10.out)
          clear hR10 hb10 hx0 hx1 h12c hwc
          go_wp2_with fail
          refine (fx_new w10 w10.heap.size (Nat.le_refl _)).mono ?_
          rintro e w11 ⟨g, rfl, hg, hI11, hb11⟩
          have HI11 := Aside0.mk hI11
          have HB11 := Aside0.mk hb11
          have HO11 := Aside0.mk (Kd.R_below HO10.out hb11)
          have HG11 := Aside0.mk (show ∀ k, (Value.slice A9 (m + 20) c9).ownBlock = some k → k ≠ g from fun k hk => by have := Kd.R_lt HO10.out k hk; omega)
          have HUB := Aside0.mk HTU.out.bytes
          obtain ⟨R, psF, hrun, hpl, hor⟩ := push_tu HCK.out (by rw [HM.out]; omega) HTU.out
          have HRUN := Aside0.mk hrun
          have HOR := Aside0.mk hor
          have HPL := Aside0.mk hpl
          clear hI11 hb11 hg hrun hor hpl
          go_wp2_with fail
          refine (push_new HI11.out HB11.out.size HUL.out HO11.out HG11.out HUB.out (by omega) HRUN.out).mono ?_
          rintro e w12 ⟨hv, Ap, N, cp, pcs, rfl, hI12, hP12, hN, hNp, hen, hO12, hb12⟩
          have HI12 := Aside0.mk hI12
          have HP12 := Aside0.mk hP12
          have HN := Aside0.mk hN
          have HEN := Aside0.mk hen
          have HNP := Aside0.mk hNp
          have HB12 := Aside0.mk (HB11.out.trans hb12)
          have HW12 := Aside0.mk (below_then HW10.out HW10.out.size HB12.out)
          have HL10 := Aside0.mk (pack_len1 HCK.out HM.out)
          have HBK := Aside0.mk (pack_bytes1 HCK.out)
          have HCA := Aside0.mk (show m + 20 ≤ c9 ∧ Kd.C (Kd.int .u8) w12 A9 (m + 20) (uL d bd sm) from by
            have h1 := Kd.R_reads' hO12
            have h2 := h1.2.2
            rw [HUL.out] at h2
            exact ⟨h1.2.1, h2⟩)
          have HCB := Aside0.mk (show m + 20 ≤ c10 ∧ Kd.C (Kd.int .u8) w12 A10 (m + 20) (packL [⟨s, d⟩]) from by
            have h1 := Kd.R_reads' (Kd.R_below HR10.out HB12.out)
            have h2 := h1.2.2
            rw [HL10.out] at h2
            exact ⟨h1.2.1, h2⟩)
          have hN7 : N ≤ 7000 := by rw [hNp]; exact HPL.out
          clear hI12 hP12 hN hen hNp hO12 hb12
          go_wp2_with fail
          refine (same_call HUL.out HL10.out HUB.out HBK.out HCA.out.2 HCA.out.1 HCB.out.2 HCB.out.1).mono ?_
          rintro e w13 ⟨rfl, q7, rfl⟩
          rcases HOR.out with ⟨heq, hR0, hbt⟩ | ⟨hne, hRe, hpe, hbt⟩
          · rw [decide_eq_true heq, hR0]
            have HBT := Aside0.mk hbt
            clear heq hR0 hbt
            go_wp2_with fail
            refine (between_walk (HI12.out.ext (pw_below_drewN (Below.refl _ _) q7))).mono ?_
            rintro e w14 ⟨rfl, rfl⟩
            rw [HBT.out]
            go_wp2
            go_ret
            exact ⟨rfl, pw_below_drewN HW12.out q7⟩
          · rw [decide_eq_false hne]
            have HBT := Aside0.mk hbt
            have HPE := Aside0.mk hpe
            clear hne hbt hpe
            obtain ⟨wy, hwy⟩ : ∃ wy, w12.drewN q7 = wy := ⟨_, rfl⟩
            have HPy := Aside0.mk (show Kd.R kp 53 wy w11.heap.size (fun _ => True) (.slice Ap N cp) pcs from by rw [← hwy]; exact Kd.R_below HP12.out (pw_below_drewN (Below.refl _ _) q7))
            have HIy := Aside0.mk (show IsRd wy w10.heap.size g hv R from by rw [← hwy]; exact HI12.out.ext (pw_below_drewN (Below.refl _ _) q7))
            have HWy := Aside0.mk (show Below w.heap.size w wy from by rw [← hwy]; exact pw_below_drewN HW12.out q7)
            rw [hwy]
            clear hwy
            go_wp2
            go_loopw [127, 19] (fun i u wr => ∃ (t : Nat) (u19 : Value), u19 = u ∧ i = .int .i64 t ∧ t ≤ N ∧ Aside0 (Below wy.heap.size wy wr)) (fun i _ _ => N - (intOf i).toNat)
            case atStart => exact ⟨0, _, rfl, rfl, Nat.zero_le _, ⟨Below.refl _ _⟩⟩
            case round =>
              obtain ⟨t, u, rfl, rfl, ht, HBz⟩ := hrel
              by_cases htN : t < N
              · obtain ⟨go, c9', e9, hPr⟩ := rowA_form HN.out (by omega) (Kd.R_below HPy.out HBz.out)
                injection e9 with e9 _ _
                subst e9
                obtain ⟨⟨h0, h1, h2, h3, h4⟩, hfz⟩ := pc_at hPr t htN
                have h5 : (pcs.getD t zp).en = false := by
                  rw [HEN.out t htN]
                  refine HPE.out _ ?_
                  rw [List.getD_eq_getElem?_getD, List.getElem?_eq_getElem (by rw [← HNP.out]; exact htN)]
                  exact List.getElem_mem _
                rw [h5] at h4
                have htn : (t : Int) < (N : Int) := by omega
                clear h5 hPr hfz
                go_wp2
                go_roundw
                case rel => exact ⟨t + 1, _, rfl, by go_num, by omega, ⟨by (first | exact below_alloc HBz.out _ | exact pw_below_drewN (below_alloc HBz.out _) _)⟩⟩
                case measure => simp [intOf]; omega
              · obtain rfl : N = t := by omega
                have HIz := Aside0.mk (HIy.out.ext HBz.out)
                have HWz := Aside0.mk (below_then HWy.out HWy.out.size HBz.out)
                rcases hRe with hRe | hRe
                · rw [hRe]
                  go_wp2_with fail
                  refine (between_walk HIz.out).mono ?_
                  rintro e w14 ⟨rfl, rfl⟩
                  rw [HBT.out]
                  go_wp2
                  go_ret
                  exact ⟨rfl, HWz.out⟩
                · rw [hRe]
                  go_wp2_with fail
                  refine (between_walk HIz.out).mono ?_
                  rintro e w14 ⟨rfl, rfl⟩
                  rw [HBT.out]
                  go_wp2
                  go_ret
                  exact ⟨rfl, HWz.out⟩
      · have hd1 : decide (8 * ((m : Int) + 20 - 16) - 32 ≤ (q : Int)) = false := decide_eq_false (by omega)
        obtain ⟨A5, rfl⟩ : ∃ A5, A5 = A3 := ⟨_, rfl⟩
        obtain ⟨c5, rfl⟩ : ∃ c5, c5 = c3 := ⟨_, rfl⟩
        obtain ⟨bd, rfl⟩ : ∃ bd, bd = cT := ⟨_, rfl⟩
        obtain ⟨wv, rfl⟩ : ∃ wv : World, wv = w3 := ⟨_, rfl⟩
        have HRd := HR3
        have HXv := HX3
        have HWv := HW3
        obtain ⟨sm, hsm⟩ : ∃ sm, be4 (moreN 0 (bytesOf s ++ d)) = sm := ⟨_, rfl⟩
        rw [hsm] at HBD HTU
        rw [HBD.out] at HRb
        have HSM := Aside0.mk hsm
        clear hsm HR3 HX3 HW3
        have HU0 := Aside0.mk (show (firstL ++ be4 (m : Int)).length = 12 from by rw [List.length_append, be4_length]; rfl)
        have HC1 := Aside0.mk (show ∀ W, Below wv.heap.size wv W → Kd.C (Kd.int .u8) W (some ⟨g2, 0, none⟩) 12 (firstL ++ be4 (m : Int)) from fun W hW => by
          have h1 := (Kd.R_reads' (Kd.R_below HRb.out hW)).2.2
          rw [← List.append_assoc, ← List.append_assoc, List.append_assoc (firstL ++ be4 (m : Int))] at h1
          have h2 := Kd.C_take (m := 12) h1 (by rw [List.length_append, HU0.out]; omega)
          rw [List.take_left' HU0.out, HU0.out] at h2
          exact h2)
        have HC3 := Aside0.mk (show ∀ W, Below wv.heap.size wv W → Kd.C (Kd.int .u8) W (some ⟨g2, m + 16, none⟩) 4 sm from fun W hW => by
          have h1 := (Kd.R_reads' (Kd.R_below HRb.out hW)).2.2
          have hl : (firstL ++ (be4 (m : Int) ++ (bytesOf s ++ d))).length = m + 16 := by
            have e8 : firstL.length = 8 := rfl
            rw [List.length_append, List.length_append, be4_length, HKL.out, e8]; omega
          rw [← List.append_assoc] at h1
          have h2 := Kd.C_drop (m := m + 16) (c := c2) h1 (by rw [List.length_append, hl]; omega) (by rw [List.length_append, hl, HTU.out.sl]; omega)
          rw [if_neg (by omega), List.drop_left' hl, HTU.out.sl] at h2
          have e2 : (some (⟨g2, 0, none⟩ : Addr)).map (·.add ((m + 16) * (Kd.int .u8).sz)) = some ⟨g2, m + 16, none⟩ := by
            rw [Option.map_some, show (Kd.int .u8).sz = 1 from rfl, Nat.mul_one, add_plain]
          rw [e2] at h2
          exact h2)
        have HBL := Aside0.mk (show bd.length = m + 4 from by rw [HTU.out.bl, HM.out])
        have HCd := Aside0.mk (show ∀ W, Below wv.heap.size wv W → m + 4 ≤ c5 ∧ Kd.C (Kd.int .u8) W A5 (m + 4) bd from fun W hW => by
          have h1 := Kd.R_reads' (Kd.R_below HRd.out hW)
          have h2 := h1.2.2
          rw [HBL.out] at h2
          exact ⟨h1.2.1, h2⟩)
        have hcut := cut_four (g := g2) hcc2
        have hc5 := (HCd.out wv (Below.refl _ _)).1
        have h12c : (12 : Int) ≤ (c2 : Int) := by omega
        have hwc : wrap64 ((m : Int) + 20 - 4) = (m : Int) + 16 := by unfold wrap64; omega
        clear hcc2
        have HBd := Aside0.mk (below_drew (Below.refl wv.heap.size wv))
        go_wp2_with fail
        refine start_ (n := 13) (S := fun _ => True) (ds := []) #[false, false, false, false, false, false, false, false, false, false, false, false, false] (by kernel_rfl) rfl rfl trivial (fun hHeld => ?_)
        generalize wv.drew = wd at HBd ⊢
        refine pure_ (i := 1) (N := some 92) (v := ?_) (a' := ?_) #[false, true, false, false, false, false, false, false, false, false, false, false, false] rfl rfl (by kernel_rfl) (fun _ _ _ h => h) (Or.inl ⟨by rfl, ?_⟩) ?_ ?_
        rotate_left
        · intro w'
          go_simp
          with_reducible rfl
        rotate_left
        · simp only [Act.put, List.setIfInBounds_toArray, List.set_cons_zero, List.set_cons_succ, i64_w, i32_w]
          rfl
        refine pure_ (i := 2) (N := some 93) (v := ?_) (a' := ?_) #[false, true, true, false, false, false, false, false, false, false, false, false, false] rfl rfl (by kernel_rfl) (fun _ _ _ h => h) (Or.inl ⟨by rfl, ?_⟩) ?_ ?_
        rotate_left
        · intro w'
          go_simp
          with_reducible rfl
        rotate_left
        · simp only [Act.put, List.setIfInBounds_toArray, List.set_cons_zero, List.set_cons_succ, i64_w, i32_w]
          rfl
        refine pure_ (i := 4) (N := some 95) (v := ?_) (a' := ?_) #[false, true, true, false, true, false, false, false, false, false, false, false, false] rfl rfl (by kernel_rfl) (fun _ _ _ h => h) (Or.inl ⟨by rfl, ?_⟩) ?_ ?_
        rotate_left
        · intro w'
          go_simp
          with_reducible rfl
        rotate_left
        · simp only [Act.put, List.setIfInBounds_toArray, List.set_cons_zero, List.set_cons_succ, i64_w, i32_w]
          rfl
        refine pure_ (i := 6) (N := some 97) (v := ?_) (a' := ?_) #[false, true, true, false, true, false, true, false, false, false, false, false, false] rfl rfl (by kernel_rfl) (fun _ _ _ h => h) (Or.inl ⟨by rfl, ?_⟩) ?_ ?_
        rotate_left
        · intro w'
          go_simp
          with_reducible rfl
        rotate_left
        · simp only [Act.put, List.setIfInBounds_toArray, List.set_cons_zero, List.set_cons_succ, i64_w, i32_w]
          rfl
        refine pure_ (i := 7) (N := some 98) (v := ?_) (a' := ?_) #[false, true, true, false, true, false, true, true, false, false, false, false, false] rfl rfl (by kernel_rfl) (fun _ _ _ h => h) (Or.inl ⟨by rfl, ?_⟩) ?_ ?_
        rotate_left
        · intro w'
          go_simp
          with_reducible rfl
        rotate_left
        · simp only [Act.put, List.setIfInBounds_toArray, List.set_cons_zero, List.set_cons_succ, i64_w, i32_w]
          rfl
        refine pure_ (i := 8) (N := some 99) (v := ?_) (a' := ?_) #[false, true, true, false, true, false, true, true, true, false, false, false, false] rfl rfl (by kernel_rfl) (fun _ _ _ h => h) (Or.inl ⟨by rfl, ?_⟩) ?_ ?_
        rotate_left
        · intro w'
          go_simp
          with_reducible rfl
        rotate_left
        · simp only [Act.put, List.setIfInBounds_toArray, List.set_cons_zero, List.set_cons_succ, i64_w, i32_w]
          rfl
        refine pure_ (i := 9) (N := some 100) (v := ?_) (a' := ?_) #[false, true, true, false, true, false, true, true, true, true, false, false, false] rfl rfl (by kernel_rfl) (fun _ _ _ h => h) (Or.inl ⟨by rfl, ?_⟩) ?_ ?_
        rotate_left
        · intro w'
          go_simp
          with_reducible rfl
        rotate_left
        · simp only [Act.put, List.setIfInBounds_toArray, List.set_cons_zero, List.set_cons_succ, i64_w, i32_w]
          rfl
        refine pure_ (i := 10) (N := some 101) (v := ?_) (a' := ?_) #[false, true, true, false, true, false, true, true, true, true, true, false, false] rfl rfl (by kernel_rfl) (fun _ _ _ h => h) (Or.inl ⟨by rfl, ?_⟩) ?_ ?_
        rotate_left
        · intro w'
          go_simp
          with_reducible rfl
        rotate_left
        · simp only [Act.put, List.setIfInBounds_toArray, List.set_cons_zero, List.set_cons_succ, i64_w, i32_w]
          rfl
        refine one_ (i := 0) (N := some 91) #[true, true, true, false, true, false, true, true, true, true, true, false, false] rfl rfl (by kernel_rfl) (by decide) (fun K hK => ?_)
        refine value_ (w1 := wd.alloc (.cells #[] 5)) (v := .slice (some ⟨wd.heap.size, 0, none⟩) 0 0) (by rfl) rfl ?_ ?_
        · go_simp
        refine hK.out _ _ trivial (fun _ => ?_)
        clear hK K
        refine norm_ (a' := ?_) ?_ ?_
        rotate_left
        · show Act.put _ (some 91) _ = _
          simp only [Act.put, List.setIfInBounds_toArray, List.set_cons_zero, List.set_cons_succ, i64_w, i32_w]
          rfl
        have hO6 : Kd.R (Kd.int .u8) 5 (wd.alloc (.cells #[] 5)) wv.heap.size (fun _ => True) (.slice (some ⟨wd.heap.size, 0, none⟩) 0 0) [] := Kd.R_mono (Kd.R_lower (lit_R (Kd.int .u8) (heap_alloc_new wd _) (Nat.le_refl _)) HBd.out.size) (fun _ _ => trivial)
        have hB6 : Below wv.heap.size wv (wd.alloc (.cells #[] 5)) := below_alloc HBd.out _
        refine one_ (i := 3) (N := some 94) #[true, true, true, true, true, false, true, true, true, true, true, false, false] rfl rfl (by kernel_rfl) (by decide) (fun K hK => ?_)
        refine Kd.R_append_rows_step (Kd.int .u8) (w0 := wv) wv.heap.size (by rfl) (.tmp 91) (.tmp 93) 26 5 (.int .u8 0) 1 rfl Try.underlying26 info5 rfl (by decide) (by decide) (.slice (some ⟨wd.heap.size, 0, none⟩) 0 0) ([]) (firstL ++ be4 (m : Int)) (some ⟨g2, 0, none⟩) (12) (c2) (fun _ => True) (fun _ => False) (by rfl) (by rfl) hO6 (HC1.out _ hB6) (fun _ _ h => h) (fun _ h => h.elim) (fun _ _ => trivial) hB6 hB6.size (by decide) ?_
        intro v7 w7 hO7 hB7 hg_ hat_
        clear hg_ hat_
        refine hK.out _ _ trivial (fun _ => ?_)
        clear hK K
        refine norm_ (a' := ?_) ?_ ?_
        rotate_left
        · show Act.put _ (some 94) _ = _
          simp only [Act.put, List.setIfInBounds_toArray, List.set_cons_zero, List.set_cons_succ, i64_w, i32_w]
          rfl
        refine one_ (i := 5) (N := some 96) #[true, true, true, true, true, true, true, true, true, true, true, false, false] rfl rfl (by kernel_rfl) (by decide) (fun K hK => ?_)
        refine Kd.R_append_rows_step (Kd.int .u8) (w0 := wv) wv.heap.size (by rfl) (.tmp 94) (.tmp 95) 26 5 (.int .u8 0) 1 rfl Try.underlying26 info5 rfl (by decide) (by decide) (v7) ([] ++ (firstL ++ be4 (m : Int))) (bd) (A5) (m + 4) (c5) (fun _ => True) (fun _ => False) (by rfl) (by rfl) hO7 ((HCd.out _ hB7).2) (fun _ _ h => h) (fun _ h => h.elim) (fun _ _ => trivial) hB7 hB7.size (by rw [List.nil_append, HU0.out]; omega) ?_
        intro v8 w8 hO8 hB8 hg_ hat_
        clear hg_ hat_
        refine hK.out _ _ trivial (fun _ => ?_)
        clear hK K
        refine norm_ (a' := ?_) ?_ ?_
        rotate_left
        · show Act.put _ (some 96) _ = _
          simp only [Act.put, List.setIfInBounds_toArray, List.set_cons_zero, List.set_cons_succ, i64_w, i32_w]
          rfl
        refine one_ (i := 11) (N := some 102) #[true, true, true, true, true, true, true, true, true, true, true, true, false] rfl rfl (by kernel_rfl) (by decide) (fun K hK => ?_)
        refine Kd.R_append_rows_step (Kd.int .u8) (w0 := wv) wv.heap.size (by rfl) (.tmp 96) (.tmp 101) 26 5 (.int .u8 0) 1 rfl Try.underlying26 info5 rfl (by decide) (by decide) (v8) (([] ++ (firstL ++ be4 (m : Int))) ++ bd) (sm) (some ⟨g2, m + 16, none⟩) (4) (c2 - (m + 16)) (fun _ => True) (fun _ => False) (by rfl) (by rfl) hO8 (HC3.out _ hB8) (fun _ _ h => h) (fun _ h => h.elim) (fun _ _ => trivial) hB8 hB8.size (by rw [List.nil_append, List.length_append, HU0.out, HBL.out]; omega) ?_
        intro v9 w9 hO9 hB9 hg_ hat_
        clear hg_ hat_
        refine hK.out _ _ trivial (fun _ => ?_)
        clear hK K
        refine norm_ (a' := ?_) ?_ ?_
        rotate_left
        · show Act.put _ (some 102) _ = _
          simp only [Act.put, List.setIfInBounds_toArray, List.set_cons_zero, List.set_cons_succ, i64_w, i32_w]
          rfl
        rw [uL_of HM.out] at hO9
        have hUl : (uL d bd sm).length = m + 20 := by
          rw [← uL_of HM.out, List.nil_append, List.length_append, List.length_append, HU0.out, HBL.out, HTU.out.sl]; omega
        refine pure_ (i := 12) (N := some 12) (v := ?_) (a' := ?_) #[true, true, true, true, true, true, true, true, true, true, true, true, true] rfl rfl (by kernel_rfl) (fun _ _ _ h => h) (Or.inl ⟨by rfl, ?_⟩) ?_ ?_
        rotate_left
        · intro w'
          go_simp
          with_reducible rfl
        rotate_left
        · simp only [Act.put, List.setIfInBounds_toArray, List.set_cons_zero, List.set_cons_succ, i64_w, i32_w]
          rfl
        refine done_ (by kernel_rfl) ?_
        clear hO6 hB6 hO7 hB7 hO8 hB8 hcut
        obtain ⟨A9, c9, rfl⟩ := Kd.R_slice hO9
        rw [hUl] at hO9 ⊢
        have HUL := Aside0.mk hUl
        have HO9 := Aside0.mk hO9
        have HB9 := Aside0.mk hB9
        have HX9 := Aside0.mk ((hB9.block _ (blk_lt HXv.out)).trans HXv.out)
        have hx0 := blk_cell HX9.out 0
        have hx1 := blk_cell HX9.out 1
        clear hO9 hB9 hUl
        go_wp2_with fail
        have HWx := Aside0.mk (below_then HWv.out HWv.out.size HB9.out)
        refine (pack_ck HCK.out HM.out (b := w9.heap.size) (heap_alloc_new w9 _) hcc (Kd.C_alloc (Kd.C_below HC.out HWx.out) _) (by omega) HD.out).mono ?_
        rintro e w10 ⟨A10, c10, rfl, hR10, hb10⟩
        have HB10 := Aside0.mk (show Below w9.heap.size w9 w10 from (below_alloc (Below.refl _ _) _).trans (hb10.mono (by simp)))
        have HR10 := Aside0.mk hR10
        have HO10 := Aside0.mk (Kd.R_below HO9.out HB10.out)
        have HW10 := Aside0.mk (below_then HWx.out HWx.out.size HB10.out)
        clear hR10 hb10 hx0 hx1 h12c hwc
        go_wp2_with fail
        refine (fx_new w10 w10.heap.size (Nat.le_refl _)).mono ?_
        rintro e w11 ⟨g, rfl, hg, hI11, hb11⟩
        have HI11 := Aside0.mk hI11
        have HB11 := Aside0.mk hb11
        have HO11 := Aside0.mk (Kd.R_below HO10.out hb11)
        have HG11 := Aside0.mk (show ∀ k, (Value.slice A9 (m + 20) c9).ownBlock = some k → k ≠ g from fun k hk => by have := Kd.R_lt HO10.out k hk; omega)
        have HUB := Aside0.mk HTU.out.bytes
        obtain ⟨R, psF, hrun, hpl, hor⟩ := push_tu HCK.out (by rw [HM.out]; omega) HTU.out
        have HRUN := Aside0.mk hrun
        have HOR := Aside0.mk hor
        have HPL := Aside0.mk hpl
        clear hI11 hb11 hg hrun hor hpl
        go_wp2_with fail
        refine (push_new HI11.out HB11.out.size HUL.out HO11.out HG11.out HUB.out (by omega) HRUN.out).mono ?_
        rintro e w12 ⟨hv, Ap, N, cp, pcs, rfl, hI12, hP12, hN, hNp, hen, hO12, hb12⟩
        have HI12 := Aside0.mk hI12
        have HP12 := Aside0.mk hP12
        have HN := Aside0.mk hN
        have HEN := Aside0.mk hen
        have HNP := Aside0.mk hNp
        have HB12 := Aside0.mk (HB11.out.trans hb12)
        have HW12 := Aside0.mk (below_then HW10.out HW10.out.size HB12.out)
        have HL10 := Aside0.mk (pack_len1 HCK.out HM.out)
        have HBK := Aside0.mk (pack_bytes1 HCK.out)
        have HCA := Aside0.mk (show m + 20 ≤ c9 ∧ Kd.C (Kd.int .u8) w12 A9 (m + 20) (uL d bd sm) from by
          have h1 := Kd.R_reads' hO12
          have h2 := h1.2.2
          rw [HUL.out] at h2
          exact ⟨h1.2.1, h2⟩)
        have HCB := Aside0.mk (show m + 20 ≤ c10 ∧ Kd.C (Kd.int .u8) w12 A10 (m + 20) (packL [⟨s, d⟩]) from by
          have h1 := Kd.R_reads' (Kd.R_below HR10.out HB12.out)
          have h2 := h1.2.2
          rw [HL10.out] at h2
          exact ⟨h1.2.1, h2⟩)
        have hN7 : N ≤ 7000 := by rw [hNp]; exact HPL.out
        clear hI12 hP12 hN hen hNp hO12 hb12
        go_wp2_with fail
        refine (same_call HUL.out HL10.out HUB.out HBK.out HCA.out.2 HCA.out.1 HCB.out.2 HCB.out.1).mono ?_
        rintro e w13 ⟨rfl, q7, rfl⟩
        rcases HOR.out with ⟨heq, hR0, hbt⟩ | ⟨hne, hRe, hpe, hbt⟩
        · rw [decide_eq_true heq, hR0]
          have HBT := Aside0.mk hbt
          clear heq hR0 hbt
          go_wp2_with fail
          refine (between_walk (HI12.out.ext (pw_below_drewN (Below.refl _ _) q7))).mono ?_
          rintro e w14 ⟨rfl, rfl⟩
          rw [HBT.out]
          go_wp2
          go_ret
          exact ⟨rfl, pw_below_drewN HW12.out q7⟩
        · rw [decide_eq_false hne]
          have HBT := Aside0.mk hbt
          have HPE := Aside0.mk hpe
          clear hne hbt hpe
          obtain ⟨wy, hwy⟩ : ∃ wy, w12.drewN q7 = wy := ⟨_, rfl⟩
          have HPy := Aside0.mk (show Kd.R kp 53 wy w11.heap.size (fun _ => True) (.slice Ap N cp) pcs from by rw [← hwy]; exact Kd.R_below HP12.out (pw_below_drewN (Below.refl _ _) q7))
          have HIy := Aside0.mk (show IsRd wy w10.heap.size g hv R from by rw [← hwy]; exact HI12.out.ext (pw_below_drewN (Below.refl _ _) q7))
          have HWy := Aside0.mk (show Below w.heap.size w wy from by rw [← hwy]; exact pw_below_drewN HW12.out q7)
          rw [hwy]
          clear hwy
          go_wp2
          go_loopw [127, 19] (fun i u wr => ∃ (t : Nat) (u19 : Value), u19 = u ∧ i = .int .i64 t ∧ t ≤ N ∧ Aside0 (Below wy.heap.size wy wr)) (fun i _ _ => N - (intOf i).toNat)
          case atStart => exact ⟨0, _, rfl, rfl, Nat.zero_le _, ⟨Below.refl _ _⟩⟩
          case round =>
            obtain ⟨t, u, rfl, rfl, ht, HBz⟩ := hrel
            by_cases htN : t < N
            · obtain ⟨go, c9', e9, hPr⟩ := rowA_form HN.out (by omega) (Kd.R_below HPy.out HBz.out)
              injection e9 with e9 _ _
              subst e9
              obtain ⟨⟨h0, h1, h2, h3, h4⟩, hfz⟩ := pc_at hPr t htN
              have h5 : (pcs.getD t zp).en = false := by
                rw [HEN.out t htN]
                refine HPE.out _ ?_
                rw [List.getD_eq_getElem?_getD, List.getElem?_eq_getElem (by rw [← HNP.out]; exact htN)]
                exact List.getElem_mem _
              rw [h5] at h4
              have htn : (t : Int) < (N : Int) := by omega
              clear h5 hPr hfz
              go_wp2
              go_roundw
              case rel => exact ⟨t + 1, _, rfl, by go_num, by omega, ⟨by (first | exact below_alloc HBz.out _ | exact pw_below_drewN (below_alloc HBz.out _) _)⟩⟩
              case measure => simp [intOf]; omega
            · obtain rfl : N = t := by omega
              have HIz := Aside0.mk (HIy.out.ext HBz.out)
              have HWz := Aside0.mk (below_then HWy.out HWy.out.size HBz.out)
              rcases hRe with hRe | hRe
              · rw [hRe]
                go_wp2_with fail
                refine (between_walk HIz.out).mono ?_
                rintro e w14 ⟨rfl, rfl⟩
                rw [HBT.out]
                go_wp2
                go_ret
                exact ⟨rfl, HWz.out⟩
              · rw [hRe]
                go_wp2_with fail
                refine (between_walk HIz.out).mono ?_
                rintro e w14 ⟨rfl, rfl⟩
                rw [HBT.out]
                go_wp2
                go_ret
                exact ⟨rfl, HWz.out⟩
end Go.Proofs.Ytapaodagnpaekaa.Lib
