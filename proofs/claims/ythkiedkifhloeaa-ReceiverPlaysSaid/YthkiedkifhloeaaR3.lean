/- receiver: the document's Held and Ranges: walked by hand. -/
import Derived.Test.YthkiedkifhloeaaR1
import Derived.Test.YthkiedkifhloeaaP3
namespace Go.Proofs.Ythkiedkifhloeaa.Lib
open Go.RowKit Go.Proofs.YthkiedkifhloeaaW.PrintWords Go.Proofs.YthkiedkifhloeaaW.PrintLast Go.Proofs.YthkiedkifhloeaaW.PrintMore
attribute [local go_sem] max2_int min2_int max_two min_two max_three min_three max_four min_four
set_option linter.unusedVariables false
set_option linter.unusedSimpArgs false
set_option maxHeartbeats 4000000 in
set_option maxRecDepth 100000 in
theorem rf_held {W : World} {B h : Nat} {vD vC : Value} {n nx : Nat} {ww : Int} {hs : List Hd} {bs : List Bool} (hf : IsRf W B h vD vC n ww hs bs) (hx : NextIs n nx bs) (hn : n ≤ 1048577) : Calls Try.prog 18 #[.pointer (some ⟨h, 0, none⟩)] W fun e W' => e = .returned (.int .i64 (keysU bs nx n).length) ∧ W' = W := by
  have HF := Aside0.mk hf
  have HX := Aside0.mk hx
  obtain ⟨AC, cC, rfl⟩ := Kd.R_slice hf.come
  rw [hf.lb] at hf HF
  have hg1 := blk_cell hf.blk 1
  have hle := hx.le
  clear hf hx
  go_enter Try.func18, Try.ntmps18
  go_wp2_with fail
  refine (rf_next HF.out HX.out hn).mono ?_
  rintro e w1 ⟨rfl, rfl⟩
  go_wp2
  go_loopw [3, 4] (fun v3 v4 wr => ∃ (t q : Nat), v3 = .int .i64 q ∧ v4 = .int .i64 t ∧ nx ≤ t ∧ t ≤ n ∧ q ≤ t ∧ Aside0 ((keysU bs nx t).length = q) ∧ wr = w1) (fun _ v4 _ => n - (intOf v4).toNat)
  case atStart => exact ⟨nx, 0, rfl, rfl, Nat.le_refl _, hle, Nat.zero_le _, ⟨by rw [keysU_zero]; rfl⟩, rfl⟩
  case round =>
    obtain ⟨t, q, rfl, rfl, hxt, htn', hqt, HQ, rfl⟩ := hrel
    by_cases htn : t < n
    · obtain ⟨g, cg, e, _⟩ := rowA_form HF.out.lb (by omega) HF.out.come
      injection e with e _ e2
      subst e e2
      obtain ⟨hk, _⟩ := HF.out.flag t htn
      have ht0 : (0 : Int) ≤ (t : Int) := by omega
      have htn' : (t : Int) < (n : Int) := by omega
      cases hb : bs.getD t false with
      | true =>
        rw [hb] at hk
        have HQ2 := Aside0.mk (show (keysU bs nx (t + 1)).length = q + 1 from by rw [keysU_yes hxt hb, List.length_append, HQ.out]; rfl)
        clear hb
        go_wp2
        go_roundw
        case rel => refine ⟨t + 1, q + 1, by go_num, by go_num, by omega, by omega, by omega, HQ2, ?_⟩; trivial
        case measure => simp [intOf]; omega
      | false =>
        rw [hb] at hk
        have HQ2 := Aside0.mk (show (keysU bs nx (t + 1)).length = q from by rw [keysU_no hb, HQ.out])
        clear hb
        go_wp2
        go_roundw
        case rel => refine ⟨t + 1, q, by go_num, by go_num, by omega, by omega, by omega, HQ2, ?_⟩; trivial
        case measure => simp [intOf]; omega
    · obtain rfl : t = n := by omega
      go_wp2
      go_ret
      exact ⟨by rw [HQ.out]; rfl, rfl⟩
set_option maxHeartbeats 4000000 in
set_option maxRecDepth 100000 in
theorem rf_ranges {W : World} {B h : Nat} {vD vC : Value} {n nx : Nat} {ww : Int} {hs : List Hd} {bs : List Bool} (hf : IsRf W B h vD vC n ww hs bs) (hx : NextIs n nx bs) (hn : n ≤ 1048577) : Calls Try.prog 21 #[.pointer (some ⟨h, 0, none⟩)] W fun e W' => ∃ A N c, e = .returned (.slice A N c) ∧ (((keysU bs nx n).foldl rgS []).take 4).length = N ∧ Kd.R kr 48 W' W.heap.size (fun _ => True) (.slice A N c) (((keysU bs nx n).foldl rgS []).take 4) ∧ Below W.heap.size W W' := by
  have HF := Aside0.mk hf
  have HX := Aside0.mk hx
  obtain ⟨AC, cC, rfl⟩ := Kd.R_slice hf.come
  rw [hf.lb] at hf HF
  have hle := hx.le
  clear hf hx
  go_enter Try.func21, Try.ntmps21
  go_wp2_with fail
  refine (rf_next HF.out HX.out hn).mono ?_
  rintro e w1 ⟨rfl, rfl⟩
  go_wp2
  go_loopw [3, 4, 5] (fun v3 v4 v5 wr => ∃ (t : Nat) (u5 : Value) (os : List (Int × Int)), u5 = v5 ∧ v4 = .int .i64 t ∧ nx ≤ t ∧ t ≤ n ∧ Aside0 (Kd.R kr 48 wr w1.heap.size (fun _ => True) v3 os) ∧ Aside0 (os = (keysU bs nx t).foldl rgS []) ∧ Aside0 (Below w1.heap.size w1 wr)) (fun _ v4 _ _ => n - (intOf v4).toNat)
  case atStart => exact ⟨nx, _, [], rfl, rfl, Nat.le_refl _, hle, ⟨Kd.R_nil _ _ _ _ _⟩, ⟨by rw [keysU_zero]; rfl⟩, ⟨Below.refl _ _⟩⟩
  case round =>
    obtain ⟨t, u5, os, rfl, rfl, hxt, htn', HO, HP, HB⟩ := hrel
    obtain ⟨A3, c3, rfl⟩ := Kd.R_slice HO.out
    obtain ⟨q, hq⟩ : ∃ q, os.length = q := ⟨_, rfl⟩
    rw [hq] at HO ⊢
    have HQ := Aside0.mk hq
    have hqt : q ≤ t := by
      have h1 := rgF_len (keysU bs nx t) []
      have h2 := keysU_len bs nx t
      rw [← HP.out, hq, List.length_nil] at h1
      omega
    have hwq : wrap64 ((q : Int) - 1) = (q : Int) - 1 := by unfold wrap64; omega
    have hwx : wrap64 ((t : Int) + 1) = (t : Int) + 1 := by unfold wrap64; omega
    clear hq
    obtain ⟨wo, rfl⟩ : ∃ wo : World, wo = wr := ⟨_, rfl⟩
    have hg1 := blk_cell (HF.out.below HB.out).blk 1
    by_cases htn : t < n
    · obtain ⟨g, cg, e, _⟩ := rowA_form HF.out.lb (by omega) HF.out.come
      injection e with e _ e2
      subst e e2
      obtain ⟨hk, _⟩ := (HF.out.below HB.out).flag t htn
      have ht0 : (0 : Int) ≤ (t : Int) := by omega
      have htn2 : (t : Int) < (n : Int) := by omega
      cases hb : bs.getD t false with
      | false =>
        rw [hb] at hk
        have HP2 := Aside0.mk (show os = (keysU bs nx (t + 1)).foldl rgS [] from by rw [keysU_no hb, HP.out])
        clear hb
        go_wp2
        go_roundw
        case rel => exact ⟨t + 1, _, os, rfl, by go_num, by omega, by omega, HO, HP2, HB⟩
        case measure => simp [intOf]; omega
      | true =>
        rw [hb] at hk
        have HK := Aside0.mk (show keysU bs nx (t + 1) = keysU bs nx t ++ [(t : Int)] from keysU_yes hxt hb)
        clear hb
        by_cases hq0 : q = 0
        · subst hq0
          obtain rfl := List.length_eq_zero_iff.1 HQ.out
          have HLX := Aside0.mk (show (([] : List (Int × Int)).length + 1) * 16 ≤ 140737488355328 from by decide)
          have HP2 := Aside0.mk (show ([] ++ [((t : Int), (t : Int) + 1)] : List (Int × Int)) = (keysU bs nx (t + 1)).foldl rgS [] from by rw [HK.out, List.foldl_append, ← HP.out]; rfl)
          go_wp2_with (at_builtin; go_loud (refine Kd.R_append kr (w0 := w1) w1.heap.size rfl (.tmp 46) (.tmp 51) 42 48 (.agg #[.int .i64 0, .int .i64 0]) 16 rfl Try.underlying42 info48_ rfl (by decide) (by decide) (.slice A3 0 c3) ([] : List (Int × Int)) ((t : Int), (t : Int) + 1) [.int .i64 (t : Int), .int .i64 ((t : Int) + 1)] (fun _ => True) (fun _ => False) rfl rfl (kr_mkM _ _ _ _) (fun _ h => h.elim) (fun _ _ => trivial) HO.out HB.out HB.out.size HLX.out ?_); intro v5 w5 hR5 hb5 hg5 hat5; clear hg5 hat5; have HR5 := Aside0.mk hR5; have HB5 := Aside0.mk hb5; clear hR5 hb5)
          go_roundw
          case rel => exact ⟨t + 1, _, ([] : List (Int × Int)) ++ [((t : Int), (t : Int) + 1)], rfl, by go_num, by omega, by omega, HR5, HP2, HB5⟩
          case measure => simp [intOf]; omega
        · obtain ⟨go, c3', e3, hRo⟩ := rowA_form HQ.out (by omega) HO.out
          injection e3 with e3 _ e4
          subst e3 e4
          obtain ⟨_, hl2, hlf0⟩ := kr_at HO.out (q - 1) (by omega)
          obtain ⟨y, hy⟩ : ∃ y, (os.getD (q - 1) z2).2 = y := ⟨_, rfl⟩
          rw [hy] at hl2
          have HY := Aside0.mk hy
          have hqi : (q : Int) - 1 = ((q - 1 : Nat) : Int) := by omega
          have hq0p : decide (0 < (q : Int)) = true := decide_eq_true (by omega)
          have h0q : (0 : Int) ≤ (q : Int) - 1 := by omega
          have h1q : (q : Int) - 1 < (q : Int) := by omega
          clear hy hRo
          by_cases hyx : y = (t : Int)
          · subst hyx
            have hby : ((t : Int) == (t : Int)) = true := beq_self_eq_true _
            have hfz : wo.frozen? ⟨go, (q - 1) * 2 + 1, none⟩ = false := hlf0 1
            have HP2 := Aside0.mk (show os.set (q - 1) ((os.getD (q - 1) z2).1, (t : Int) + 1) = (keysU bs nx (t + 1)).foldl rgS [] from by
              rw [HK.out, List.foldl_append, ← HP.out]
              show _ = rgS os (t : Int)
              unfold rgS
              rw [HQ.out, if_pos ⟨by omega, HY.out⟩])
            have HR5 := Aside0.mk (show Kd.R kr 48 (wo.setCell ⟨go, (q - 1) * 2 + 1, none⟩ (.int .i64 ((t : Int) + 1))) w1.heap.size (fun _ => True) (.slice (some ⟨go, 0, none⟩) q c3) (os.set (q - 1) ((os.getD (q - 1) z2).1, (t : Int) + 1)) from kr_set HO.out (q - 1) (by omega) ((t : Int) + 1))
            have HB5 := Aside0.mk (show Below w1.heap.size w1 (wo.setCell ⟨go, (q - 1) * 2 + 1, none⟩ (.int .i64 ((t : Int) + 1))) from HB.out.setCell (p := ⟨go, (q - 1) * 2 + 1, none⟩) (Kd.R_base HO.out go rfl) _)
            clear hlf0
            go_wp2
            go_roundw
            case rel => exact ⟨t + 1, _, os.set (q - 1) ((os.getD (q - 1) z2).1, (t : Int) + 1), rfl, by go_num, by omega, by omega, HR5, HP2, HB5⟩
            case measure => simp [intOf]; omega
          · have hb1 : (y == (t : Int)) = false := beq_eq_false_iff_ne.2 hyx
            have HLX := Aside0.mk (show (os.length + 1) * 16 ≤ 140737488355328 from by rw [HQ.out]; omega)
            have HP2 := Aside0.mk (show os ++ [((t : Int), (t : Int) + 1)] = (keysU bs nx (t + 1)).foldl rgS [] from by
              rw [HK.out, List.foldl_append, ← HP.out]
              show _ = rgS os (t : Int)
              unfold rgS
              rw [HQ.out, if_neg (fun h => hyx (HY.out ▸ h.2))])
            go_wp2_with (at_builtin; go_loud (refine Kd.R_append kr (w0 := w1) w1.heap.size rfl (.tmp 46) (.tmp 51) 42 48 (.agg #[.int .i64 0, .int .i64 0]) 16 rfl Try.underlying42 info48_ rfl (by decide) (by decide) (.slice (some ⟨go, 0, none⟩) q c3) os ((t : Int), (t : Int) + 1) [.int .i64 (t : Int), .int .i64 ((t : Int) + 1)] (fun _ => True) (fun _ => False) rfl rfl (kr_mkM _ _ _ _) (fun _ h => h.elim) (fun _ _ => trivial) HO.out HB.out HB.out.size HLX.out ?_); intro v5 w5 hR5 hb5 hg5 hat5; clear hg5 hat5; have HR5 := Aside0.mk hR5; have HB5 := Aside0.mk hb5; clear hR5 hb5)
            go_roundw
            case rel => exact ⟨t + 1, _, os ++ [((t : Int), (t : Int) + 1)], rfl, by go_num, by omega, by omega, HR5, HP2, HB5⟩
            case measure => simp [intOf]; omega
    · obtain rfl : t = n := by omega
      by_cases hq4 : q ≤ 4
      · have hmin : (if (q : Int) < 4 then (q : Int) else 4) = (q : Int) := by split <;> omega
        have hmin2 : (if (q : Int) ≤ 4 then (q : Int) else 4) = (q : Int) := by split <;> omega
        have h0q : (0 : Int) ≤ (q : Int) := by omega
        have hqc : (q : Int) ≤ (c3 : Int) := by have := (Kd.R_reads' HO.out).2.1; omega
        have hR := Aside0.mk (show Kd.R kr 48 wo w1.heap.size (fun _ => True) (.slice A3 q c3) (os.take 4) from by rw [List.take_of_length_le (by rw [HQ.out]; exact hq4)]; exact HO.out)
        go_wp2
        go_ret
        exact ⟨_, _, _, rfl, by rw [← HP.out, List.length_take, HQ.out]; omega, HP.out ▸ hR.out, HB.out⟩
      · have hmin : (if (q : Int) < 4 then (q : Int) else 4) = 4 := by split <;> omega
        have hmin2 : (if (q : Int) ≤ 4 then (q : Int) else 4) = 4 := by split <;> omega
        have hqc : (4 : Int) ≤ (c3 : Int) := by have := (Kd.R_reads' HO.out).2.1; omega
        have hR := Aside0.mk (show Kd.R kr 48 wo w1.heap.size (fun _ => True) (.slice A3 4 c3) (os.take 4) from Kd.R_take HO.out (by rw [HQ.out]; omega))
        go_wp2
        go_ret
        exact ⟨_, _, _, rfl, by rw [← HP.out, List.length_take, HQ.out]; omega, HP.out ▸ hR.out, HB.out⟩
end Go.Proofs.Ythkiedkifhloeaa.Lib
