/- receiver: the document's Take: walked by hand (printed by p24_rtake.py). -/
import Derived.Test.YthkiedkifhloeaaR2
import Derived.Test.YthkiedkifhloeaaR3
namespace Go.Proofs.Ythkiedkifhloeaa.Lib
open Go.RowKit Go.Proofs.YthkiedkifhloeaaW.PrintWords Go.Proofs.YthkiedkifhloeaaW.PrintLast Go.Proofs.YthkiedkifhloeaaW.PrintMore
attribute [local go_sem] max2_int min2_int max_two min_two max_three min_three max_four min_four
set_option linter.unusedVariables false
set_option linter.unusedSimpArgs false
theorem lit_R {α : Type} (d : Kd α) {W : World} {base e b : Nat} (h : W.heap[b]? = some (.cells #[] e (0, 0))) (hb : base ≤ b) : Kd.R d e W base (fun k => base ≤ k) (.slice (some ⟨b, 0, none⟩) 0 0) [] :=
  ⟨fun k hk => by simp [Value.ownBlock] at hk; omega, [], ⟨by simp, .inr ⟨b, 0, #[], rfl, hb, h, Nat.le_refl _, Nat.zero_le _, by simp, by simp⟩⟩, Reps.none _ _⟩
section
variable {W : World} {B h : Nat} {n : Nat} {ww : Int} {hs : List Hd} {bs : List Bool}
theorem IsRf.ne {vD vC : Value} {gD cD gC cC : Nat} (hf : IsRf W B h (.slice (some ⟨gD, 0, none⟩) n cD) (.slice (some ⟨gC, 0, none⟩) n cC) n ww hs bs) : h ≠ gD ∧ h ≠ gC ∧ gD ≠ gC := by
  obtain ⟨cs1, h1⟩ := Kd.R_typed hf.dat gD rfl
  obtain ⟨cs2, h2⟩ := Kd.R_typed hf.come gC rfl
  have h0 := hf.blk
  refine ⟨?_, ?_, ?_⟩
  · rintro rfl
    rw [h0] at h1
    injection h1 with h1
    injection h1 with _ h1
    cases h1
  · rintro rfl
    rw [h0] at h2
    injection h2 with h2
    injection h2 with _ h2
    cases h2
  · rintro rfl
    rw [h1] at h2
    injection h2 with h2
    injection h2 with _ h2
    cases h2
theorem IsRf.setC {gD cD gC cC : Nat} (hf : IsRf W B h (.slice (some ⟨gD, 0, none⟩) n cD) (.slice (some ⟨gC, 0, none⟩) n cC) n ww hs bs) (a : Nat) :
    IsRf (W.setCell ⟨gC, a, none⟩ (.bool true)) B h (.slice (some ⟨gD, 0, none⟩) n cD) (.slice (some ⟨gC, 0, none⟩) n cC) n ww hs (bs.set a true) := by
  obtain ⟨cs2, h2⟩ := Kd.R_typed hf.come gC rfl
  refine ⟨(Below.heap_setCell _ ⟨gC, a, none⟩ _ h (hf.ne (vD := .bool true) (vC := .bool true)).2.1).trans hf.blk, hf.ge, Kd.R_set hf.dat h2 (by decide) _ _, Kd.R_putn hf.come (a : Int) true, hf.lh, by rw [List.length_set]; exact hf.lb⟩
theorem IsRf.setD {gD cD gC cC : Nat} (hf : IsRf W B h (.slice (some ⟨gD, 0, none⟩) n cD) (.slice (some ⟨gC, 0, none⟩) n cC) n ww hs bs) (a : Nat) (A : Option Addr) (m c : Nat) :
    IsRf (W.setCell ⟨gD, a, none⟩ (.slice A m c)) B h (.slice (some ⟨gD, 0, none⟩) n cD) (.slice (some ⟨gC, 0, none⟩) n cC) n ww (hs.set a (A, m, c)) bs := by
  obtain ⟨cs1, h1⟩ := Kd.R_typed hf.dat gD rfl
  refine ⟨(Below.heap_setCell _ ⟨gD, a, none⟩ _ h (hf.ne (vD := .bool true) (vC := .bool true)).1).trans hf.blk, hf.ge, Kd.R_putn hf.dat (a : Int) (A, m, c), Kd.R_set hf.come h1 (by decide) _ _, by rw [List.length_set]; exact hf.lh, hf.lb⟩
end
/-- the data from nx on, those before k -/
def outD (hs : List Hd) (nx k : Nat) : List Hd := (hs.drop nx).take (k - nx)
theorem outD_zero (hs : List Hd) (nx : Nat) : outD hs nx nx = [] := by unfold outD; rw [Nat.sub_self]; rfl
theorem outD_len (hs : List Hd) (nx k : Nat) (h1 : nx ≤ k) (h2 : k ≤ hs.length) : (outD hs nx k).length = k - nx := by
  unfold outD
  rw [List.length_take, List.length_drop]
  omega
theorem outD_step (hs : List Hd) (nx k : Nat) (h1 : nx ≤ k) (h2 : k < hs.length) : outD hs nx (k + 1) = outD hs nx k ++ [hs.getD k zh] := by
  unfold outD
  rw [show k + 1 - nx = (k - nx) + 1 from by omega, List.take_add_one, List.getElem?_drop, show nx + (k - nx) = k from by omega, List.getElem?_eq_getElem h2, List.getD_eq_getElem?_getD, List.getElem?_eq_getElem h2]
  rfl
set_option maxRecDepth 100000 in
theorem rf_no {W : World} {B h : Nat} {vD vC : Value} {n nx : Nat} {ww : Int} {hs : List Hd} {bs : List Bool} (hf : IsRf W B h vD vC n ww hs bs) (hx : NextIs n nx bs) (hn : n ≤ 1048577) (hw : 1 ≤ ww ∧ ww ≤ 64) (i : Int) (v : Value) (hno : i < nx ∨ (n : Int) ≤ i ∨ (nx : Int) + ww ≤ i ∨ bs.getD i.toNat false = true) :
    Calls Try.prog 13 #[.pointer (some ⟨h, 0, none⟩), .int .i64 i, v] W fun e W' => e = .returned (.tuple #[.slice none 0 0, .bool false]) ∧ W' = W := by
  have HF := Aside0.mk hf
  have HX := Aside0.mk hx
  obtain ⟨AC, cC, rfl⟩ := Kd.R_slice hf.come
  rw [hf.lb] at hf HF
  have hg1 := blk_cell hf.blk 1
  have hg2 := blk_cell hf.blk 2
  have hle := hx.le
  clear hf hx
  by_cases c1 : i < nx
  · have d1 : decide (i < nx) = true := decide_eq_true c1
    clear hno
    go_enter Try.func13, Try.ntmps13
    go_wp2_with fail
    refine (rf_next HF.out HX.out hn).mono ?_
    rintro e w1 ⟨rfl, rfl⟩
    go_wp2
    go_ret2
    exact ⟨rfl, rfl⟩
  · have d1 : decide (i < nx) = false := decide_eq_false c1
    by_cases c2 : (n : Int) ≤ i
    · have d2 : decide ((n : Int) ≤ i) = true := decide_eq_true c2
      clear hno
      go_enter Try.func13, Try.ntmps13
      go_wp2_with fail
      refine (rf_next HF.out HX.out hn).mono ?_
      rintro e w1 ⟨rfl, rfl⟩
      go_wp2
      go_ret2
      exact ⟨rfl, rfl⟩
    · have d2 : decide ((n : Int) ≤ i) = false := decide_eq_false c2
      have hwi : wrap64 (i - (nx : Int)) = i - (nx : Int) := by unfold wrap64; omega
      by_cases c3 : ww ≤ i - nx
      · have d3 : decide (ww ≤ i - nx) = true := decide_eq_true c3
        clear hno
        go_enter Try.func13, Try.ntmps13
        go_wp2_with fail
        refine (rf_next HF.out HX.out hn).mono ?_
        rintro e w1 ⟨rfl, rfl⟩
        go_wp2
        go_ret2
        exact ⟨rfl, rfl⟩
      · have d3 : decide (ww ≤ i - nx) = false := decide_eq_false c3
        have hb : bs.getD i.toNat false = true := by
          rcases hno with q | q | q | q
          · omega
          · omega
          · omega
          · exact q
        clear hno
        obtain ⟨a, rfl⟩ : ∃ a : Nat, (a : Int) = i := ⟨i.toNat, by omega⟩
        obtain ⟨g, cg, e, _⟩ := rowA_form HF.out.lb (by omega) HF.out.come
        injection e with e _ e2
        subst e e2
        obtain ⟨hk, _⟩ := HF.out.flag a (by omega)
        rw [Int.toNat_natCast] at hb
        rw [hb] at hk
        have ha0 : (0 : Int) ≤ (a : Int) := by omega
        have han : (a : Int) < (n : Int) := by omega
        clear hb
        go_enter Try.func13, Try.ntmps13
        go_wp2_with fail
        refine (rf_next HF.out HX.out hn).mono ?_
        rintro e w1 ⟨rfl, rfl⟩
        go_wp2
        go_ret2
        exact ⟨rfl, rfl⟩
set_option maxHeartbeats 4000000 in
set_option maxRecDepth 100000 in
theorem rf_yes {w0 W : World} {h : Nat} {gD cD gC cC : Nat} {n nx nx2 : Nat} {ww : Int} {hs : List Hd} {bs : List Bool} (hb0 : Below w0.heap.size w0 W) (hf : IsRf W w0.heap.size h (.slice (some ⟨gD, 0, none⟩) n cD) (.slice (some ⟨gC, 0, none⟩) n cC) n ww hs bs) (hx : NextIs n nx bs) (hn : n ≤ 1048577) (hw : 1 ≤ ww ∧ ww ≤ 64) (a : Nat) (ha : nx ≤ a ∧ a < n ∧ (a : Int) < nx + ww) (hb : bs.getD a false = false) (hx2 : NextIs n nx2 (bs.set a true)) (hnn : nx ≤ nx2) (A : Option Addr) (m c : Nat) (xs : List Int) (hm : xs.length = m) (hC : Kd.C (Kd.int .u8) w0 A m xs) (hl : m ≤ 1000000) :
    Calls Try.prog 13 #[.pointer (some ⟨h, 0, none⟩), .int .i64 a, .slice A m c] W fun e W' => ∃ A1 c1 Ao No co, e = .returned (.tuple #[.slice Ao No co, .bool true]) ∧ IsRf W' w0.heap.size h (.slice (some ⟨gD, 0, none⟩) n cD) (.slice (some ⟨gC, 0, none⟩) n cC) n ww (hs.set a (A1, m, c1)) (bs.set a true) ∧
      Kd.R (Kd.int .u8) 5 W' W.heap.size (fun _ => True) (.slice A1 m c1) xs ∧ No = nx2 - nx ∧ Kd.R ksl 22 W' W.heap.size (fun _ => True) (.slice Ao No co) (outD (hs.set a (A1, m, c1)) nx nx2) ∧ Kept W W' (fun k => k = gD ∨ k = gC) ∧ Below w0.heap.size W W' := by
  have HF := Aside0.mk hf
  have HX := Aside0.mk hx
  have HX2 := Aside0.mk hx2
  have HC := Aside0.mk hC
  have HM := Aside0.mk hm
  have hg0 := blk_cell hf.blk 0
  have hg1 := blk_cell hf.blk 1
  have hg2 := blk_cell hf.blk 2
  have hle2 := hx2.le
  have d1 : decide (a < nx) = false := decide_eq_false (by omega)
  have d2 : decide (n ≤ a) = false := decide_eq_false (by omega)
  have hwi : wrap64 ((a : Int) - (nx : Int)) = (a : Int) - (nx : Int) := by unfold wrap64; omega
  have d3 : decide (ww ≤ (a : Int) - nx) = false := decide_eq_false (by omega)
  obtain ⟨hk, hkf⟩ := hf.flag a (by omega)
  rw [hb] at hk
  have ha0 : (0 : Int) ≤ (a : Int) := by omega
  have han : (a : Int) < (n : Int) := by omega
  have HBT := Aside0.mk (show w0.heap.size ≤ gD ∧ w0.heap.size ≤ gC ∧ gD < W.heap.size ∧ gC < W.heap.size ∧ h < W.heap.size from ⟨Kd.R_base hf.dat gD rfl, Kd.R_base hf.come gC rfl, Kd.R_lt hf.dat gD rfl, Kd.R_lt hf.come gC rfl, blk_lt hf.blk⟩)
  have HB0 := Aside0.mk hb0
  clear hf hx hx2 hC hm hb hb0
  go_enter Try.func13, Try.ntmps13
  go_wp2_with fail
  refine (rf_next HF.out HX.out hn).mono ?_
  rintro e w1 ⟨rfl, rfl⟩
  go_wp2
  clear d1 d2 d3 hwi hk hkf hg0 hg1 hg2
  have HF1 := Aside0.mk (HF.out.setC a)
  have HK1 := Aside0.mk (show Kept w1 (w1.setCell ⟨gC, a, none⟩ (.bool true)) (fun k => k = gD ∨ k = gC) from kept_set (Kept.refl _ _) (p := ⟨gC, a, none⟩) (.inr rfl) _)
  have HBW1 := Aside0.mk (show Below w0.heap.size w1 (w1.setCell ⟨gC, a, none⟩ (.bool true)) from (Below.refl _ _).setCell (p := ⟨gC, a, none⟩) HBT.out.2.1 _)
  obtain ⟨W1, hW1⟩ : ∃ W1, w1.setCell ⟨gC, a, none⟩ (.bool true) = W1 := ⟨_, rfl⟩
  have HZ1 := Aside0.mk (show W1.heap.size = w1.heap.size from by rw [← hW1]; simp)
  rw [hW1] at HF1 HK1 HBW1 ⊢
  clear hW1
  have HC1 := Aside0.mk (Kd.C_below HC.out (HB0.out.trans HBW1.out))
  obtain ⟨hk0, hkf0⟩ := HF1.out.datum a (by omega)
  have hg0 := blk_cell HF1.out.blk 0
  refine start_ (n := 10) (S := fun w' => w'.cell? ⟨h, 0, none⟩ = some (.slice (some ⟨gD, 0, none⟩) n cD)) (ds := []) #[false, false, false, false, false, false, false, false, false, false] (by kernel_rfl) rfl rfl (hg0) (fun hHeld => ?_)
  have HDR := Aside0.mk (show Below W1.heap.size W1 W1.drew from below_drew (Below.refl _ _))
  generalize W1.drew = wd at HDR hHeld ⊢
  refine pure_ (i := 0) (N := some 50) (v := ?_) (a' := ?_) #[true, false, false, false, false, false, false, false, false, false] rfl rfl (by kernel_rfl) (fun _ _ _ h => h) (Or.inl ⟨by rfl, ?_⟩) ?_ ?_
  rotate_left
  · intro w'
    go_simp
    with_reducible rfl
  rotate_left
  · simp only [Act.put, List.setIfInBounds_toArray, List.set_cons_zero, List.set_cons_succ, i64_w, i32_w]
    rfl
  refine pure_ (i := 1) (N := some 51) (v := ?_) (a' := ?_) #[true, true, false, false, false, false, false, false, false, false] rfl rfl (by kernel_rfl) (fun _ _ _ h => h) (Or.inl ⟨by rfl, ?_⟩) ?_ ?_
  rotate_left
  · intro w'
    go_simp
    with_reducible rfl
  rotate_left
  · simp only [Act.put, List.setIfInBounds_toArray, List.set_cons_zero, List.set_cons_succ, i64_w, i32_w]
    rfl
  refine pure_ (i := 2) (N := some 52) (v := ?_) (a' := ?_) #[true, true, true, false, false, false, false, false, false, false] rfl rfl (by kernel_rfl) (fun _ _ _ h => h) (Or.inl ⟨by rfl, ?_⟩) ?_ ?_
  rotate_left
  · intro w'
    go_simp
    with_reducible rfl
  rotate_left
  · simp only [Act.put, List.setIfInBounds_toArray, List.set_cons_zero, List.set_cons_succ, i64_w, i32_w]
    rfl
  refine take_ (i := 3) (N := some 53) (v := ?_) (a' := ?_) #[true, true, true, true, false, false, false, false, false, false] rfl rfl (by kernel_rfl) (fun _ _ _ h => h) (Or.inl ⟨by rfl, ?_⟩) hHeld ?_ ?_
  rotate_left
  · rintro w' s0
    go_simp
    with_reducible rfl
  rotate_left
  · simp only [Act.put, List.setIfInBounds_toArray, List.set_cons_zero, List.set_cons_succ, i64_w, i32_w]
    rfl
  refine pure_ (i := 4) (N := some 54) (v := ?_) (a' := ?_) #[true, true, true, true, true, false, false, false, false, false] rfl rfl (by kernel_rfl) (fun _ _ _ h => h) (Or.inl ⟨by rfl, ?_⟩) ?_ ?_
  rotate_left
  · intro w'
    go_simp
    with_reducible rfl
  rotate_left
  · simp only [Act.put, List.setIfInBounds_toArray, List.set_cons_zero, List.set_cons_succ, i64_w, i32_w]
    rfl
  refine pure_ (i := 6) (N := some 56) (v := ?_) (a' := ?_) #[true, true, true, true, true, false, true, false, false, false] rfl rfl (by kernel_rfl) (fun _ _ _ h => h) (Or.inl ⟨by rfl, ?_⟩) ?_ ?_
  rotate_left
  · intro w'
    go_simp
    with_reducible rfl
  rotate_left
  · simp only [Act.put, List.setIfInBounds_toArray, List.set_cons_zero, List.set_cons_succ, i64_w, i32_w]
    rfl
  refine one_ (i := 5) (N := some 55) #[true, true, true, true, true, true, true, false, false, false] rfl rfl (by kernel_rfl) (by decide) (fun K hK => ?_)
  refine value_ (w1 := wd.alloc (.cells #[] 5)) (v := .slice (some ⟨wd.heap.size, 0, none⟩) 0 0) (by rfl) rfl ?_ ?_
  · go_simp
  refine hK.out _ _ (blk_cell (HF1.out.below (below_alloc HDR.out _)).blk 0) (fun _ => ?_)
  clear hK K
  refine norm_ (a' := ?_) ?_ ?_
  rotate_left
  · show Act.put _ (some 55) _ = _
    simp only [Act.put, List.setIfInBounds_toArray, List.set_cons_zero, List.set_cons_succ, i64_w, i32_w]
    rfl
  have hO6 : Kd.R (Kd.int .u8) 5 (wd.alloc (.cells #[] 5)) W1.heap.size (fun _ => True) (.slice (some ⟨wd.heap.size, 0, none⟩) 0 0) [] := Kd.R_mono (Kd.R_lower (lit_R (Kd.int .u8) (heap_alloc_new wd _) (Nat.le_refl _)) HDR.out.size) (fun _ _ => trivial)
  have hB6 : Below W1.heap.size W1 (wd.alloc (.cells #[] 5)) := below_alloc HDR.out _
  refine one_ (i := 7) (N := some 57) #[true, true, true, true, true, true, true, true, false, false] rfl rfl (by kernel_rfl) (by decide) (fun K hK => ?_)
  refine Kd.R_append_rows_step (Kd.int .u8) (w0 := W1) W1.heap.size (by rfl) (.tmp 55) (.tmp 56) 22 5 (.int .u8 0) 1 rfl Try.underlying22 info5 rfl (by decide) (by decide) (.slice (some ⟨wd.heap.size, 0, none⟩) 0 0) [] xs A m c (fun _ => True) (fun _ => False) (by rfl) (by rfl) hO6 (Kd.C_below HC1.out hB6) (fun _ _ h => h) (fun _ h => h.elim) (fun _ _ => trivial) hB6 hB6.size (by simp; omega) ?_
  intro v7 w7 hO7 hB7 hg_ hat_
  clear hg_ hat_
  rw [List.nil_append] at hO7
  obtain ⟨A1, c1, rfl⟩ := Kd.R_slice hO7
  rw [HM.out] at hO7 ⊢
  have HF7 := Aside0.mk (HF1.out.below hB7)
  refine hK.out _ _ (blk_cell HF7.out.blk 0) (fun _ => ?_)
  clear hK K
  refine norm_ (a' := ?_) ?_ ?_
  rotate_left
  · show Act.put _ (some 57) _ = _
    simp only [Act.put, List.setIfInBounds_toArray, List.set_cons_zero, List.set_cons_succ, i64_w, i32_w]
    rfl
  obtain ⟨_, hkf7⟩ := HF7.out.datum a (by omega)
  obtain ⟨hk7, _⟩ := HF7.out.datum a (by omega)
  refine pure_ (i := 8) (N := some 58) (v := ?_) (a' := ?_) #[true, true, true, true, true, true, true, true, true, false] rfl rfl (by kernel_rfl) (fun _ _ _ h => h) (Or.inl ⟨by rfl, ?_⟩) ?_ ?_
  rotate_left
  · intro w'
    go_simp
    with_reducible rfl
  rotate_left
  · simp only [Act.put, List.setIfInBounds_toArray, List.set_cons_zero, List.set_cons_succ, i64_w, i32_w]
    rfl
  refine one_ (i := 9) (N := none) #[true, true, true, true, true, true, true, true, true, true] rfl rfl (by kernel_rfl) (by decide) (fun K hK => ?_)
  refine skip_ (w1 := w7.setCell ⟨gD, a, none⟩ (.slice A1 m c1)) (by rfl) rfl ?_ ?_
  · go_simp
  refine hK.out _ _ (blk_cell (HF7.out.setD a A1 m c1).blk 0) (fun _ => ?_)
  clear hK K
  refine done_ (by kernel_rfl) ?_
  have HF5 := Aside0.mk (HF7.out.setD a A1 m c1)
  have HK5 := Aside0.mk (show Kept w1 (w7.setCell ⟨gD, a, none⟩ (.slice A1 m c1)) (fun k => k = gD ∨ k = gC) from kept_set (HK1.out.below hB7) (p := ⟨gD, a, none⟩) (.inl rfl) _)
  have HB5 := Aside0.mk (show Below w0.heap.size w1 (w7.setCell ⟨gD, a, none⟩ (.slice A1 m c1)) from (HBW1.out.trans (hB7.mono (by have := HB0.out.size; have := HZ1.out; omega))).setCell (p := ⟨gD, a, none⟩) HBT.out.1 _)
  have HR5 := Aside0.mk (show Kd.R (Kd.int .u8) 5 (w7.setCell ⟨gD, a, none⟩ (.slice A1 m c1)) w1.heap.size (fun _ => True) (.slice A1 m c1) xs from by
    obtain ⟨cs1, h1⟩ := Kd.R_typed HF7.out.dat gD rfl
    exact Kd.R_lower (Kd.R_set hO7 h1 (by decide) _ _) (by rw [HZ1.out]; exact Nat.le_refl _))
  obtain ⟨W5, hW5⟩ : ∃ W5, w7.setCell ⟨gD, a, none⟩ (.slice A1 m c1) = W5 := ⟨_, rfl⟩
  rw [hW5] at HF5 HK5 HB5 HR5 ⊢
  clear hW5 hO6 hB6 hO7 hB7 hk7 hkf7 hk0 hkf0 hHeld hg0
  obtain ⟨hs5, hhs⟩ : ∃ hs5, hs.set a (A1, m, c1) = hs5 := ⟨_, rfl⟩
  obtain ⟨bs5, hbs⟩ : ∃ bs5, bs.set a true = bs5 := ⟨_, rfl⟩
  rw [hhs] at HF5
  rw [hbs] at HF5 HX2
  go_wp2
  go_loopw [9, 10] (fun v9 v10 wr => ∃ (k : Nat), v10 = .int .i64 k ∧ nx ≤ k ∧ k ≤ nx2 ∧ Aside0 (Kd.R ksl 22 wr W5.heap.size (fun _ => True) v9 (outD hs5 nx k)) ∧ Aside0 (Below W5.heap.size W5 wr)) (fun _ v10 _ => nx2 - (intOf v10).toNat)
  case atStart => exact ⟨nx, rfl, Nat.le_refl _, hnn, ⟨by rw [outD_zero]; exact Kd.R_nil _ _ _ _ _⟩, ⟨Below.refl _ _⟩⟩
  case round =>
    obtain ⟨k, rfl, hk1, hk2, HO, HB⟩ := hrel
    obtain ⟨A9, c9, rfl⟩ := Kd.R_slice HO.out
    obtain ⟨wo, rfl⟩ : ∃ wo : World, wo = wr := ⟨_, rfl⟩
    have HN := Aside0.mk (show (outD hs5 nx k).length = k - nx from outD_len _ _ _ hk1 (by rw [HF5.out.lh]; omega))
    rw [HN.out] at HO ⊢
    obtain ⟨N9, hN9⟩ : ∃ N9, k - nx = N9 := ⟨_, rfl⟩
    rw [hN9] at HO HN ⊢
    have HFk := Aside0.mk (HF5.out.below HB.out)
    by_cases hlt : k < nx2
    · obtain ⟨hk5, _⟩ := HFk.out.datum k (by omega)
      obtain ⟨⟨A4, m4, c4⟩, hx4⟩ : ∃ x, hs5.getD k zh = x := ⟨_, rfl⟩
      rw [hx4] at hk5
      simp only at hk5
      have HS := Aside0.mk (show outD hs5 nx (k + 1) = outD hs5 nx k ++ [(A4, m4, c4)] from by rw [outD_step _ _ _ hk1 (by rw [HF5.out.lh]; omega), hx4])
      have HLN := Aside0.mk (show ((outD hs5 nx k).length + 1) * 24 ≤ 140737488355328 from by rw [HN.out]; omega)
      have hg0 := blk_cell HFk.out.blk 0
      have hk0 : (0 : Int) ≤ (k : Int) := by omega
      have hkn : (k : Int) < (n : Int) := by omega
      have hkx : decide ((k : Int) < (nx2 : Int)) = true := decide_eq_true (by omega)
      clear hx4
      go_wp2_with fail
      refine (rf_next HFk.out HX2.out hn).mono ?_
      rintro e w8 ⟨rfl, rfl⟩
      go_wp2_with (at_builtin; go_loud (refine Kd.R_append ksl (w0 := W5) W5.heap.size rfl (.tmp 66) (.tmp 74) 24 22 (.slice none 0 0) 24 rfl Try.underlying24 info22 rfl (by decide) (by decide) (.slice A9 N9 c9) (outD hs5 nx k) (A4, m4, c4) [.slice A4 m4 c4] (fun _ => True) (fun _ => False) rfl rfl rfl (fun _ h => h.elim) (fun _ _ => trivial) HO.out HB.out HB.out.size HLN.out ?_); intro v5 w5 hR5 hb5 hg5 hat5; clear hg5 hat5; have HR6 := Aside0.mk hR5; have HB6 := Aside0.mk hb5; clear hR5 hb5)
      go_roundw
      case rel => exact ⟨k + 1, by go_num, by omega, by omega, ⟨by rw [HS.out]; exact HR6.out⟩, HB6⟩
      case measure => simp [intOf]; omega
    · obtain rfl : k = nx2 := by omega
      have hkx : decide ((k : Int) < (k : Int)) = false := decide_eq_false (by omega)
      go_wp2_with fail
      refine (rf_next HFk.out HX2.out hn).mono ?_
      rintro e w8 ⟨rfl, rfl⟩
      go_wp2
      go_ret2
      refine ⟨A1, c1, A9, N9, c9, rfl, ?_, Kd.R_below HR5.out HB.out, hN9.symm, ?_, HK5.out.below HB.out, below_then HB5.out (Nat.le_trans HB0.out.size HB5.out.size) HB.out⟩
      · rw [hhs, hbs]; exact HFk.out
      · rw [hhs]; exact Kd.R_lower HO.out HB5.out.size
end Go.Proofs.Ythkiedkifhloeaa.Lib
