/- Lines that the kit's print wrote for this seat's functions, laid together (asm.py). -/
import Derived.Test.YteeahkioeabmoaaF1
namespace Go.Proofs.Yteeahkioeabmoaa.Lib
open Go.RowKit Go.Proofs.YteeahkioeabmoaaW.PrintWords Go.Proofs.YteeahkioeabmoaaW.PrintLast Go.Proofs.YteeahkioeabmoaaW.PrintMore
attribute [local go_sem] max2_int min2_int max_two min_two max_three min_three max_four min_four
set_option linter.unusedVariables false
set_option linter.unusedSimpArgs false
/-! ### halftonelaw03_CrcBursts -/
def halftonelaw03_CrcBursts.j0 : Nat → List Int → Int → Int → Bool → Option (Bool)
  | 0, _, _, _, _ => none
  | k + 1, x0, x1, x2, x17 => if x17 = true then (some true) else (if (wrap64 (8 * (x0.length : Int))) = 0 then (none) else ((halftonelaw03_Turned.f k x0 (Int.tmod (wrap64 (x1)) (wrap64 (8 * (x0.length : Int)))) x2).bind fun t126 => ((halftoneref01_Same.f x0 t126).bind fun t129 => ((crc_Of.f k (([x0] : List (List Int)))).bind fun t133 => ((crc_Of.f k (([t126] : List (List Int)))).bind fun t137 => (some (t129 == (t133 == t137))))))))
def halftonelaw03_CrcBursts.f (k : Nat) (l0 : List Int) (a1 : Int) (a2 : Int) : Option (Bool) := (halftonelaw03_fixed.f k).bind fun t125 => (if t125 = true then (if (l0.length : Int) = 0 then (halftonelaw03_CrcBursts.j0 k l0 a1 a2 true) else (halftonelaw03_CrcBursts.j0 k l0 a1 a2 (decide ((l0.length : Int) > 2000)))) else (some false))
theorem halftonelaw03_CrcBursts.mono_l : ∀ k, (∀ y0 y1 y2 y3, LeO (halftonelaw03_CrcBursts.j0 k y0 y1 y2 y3) (halftonelaw03_CrcBursts.j0 (k + 1) y0 y1 y2 y3))
  | 0 => fun _ _ _ _ r h => by simp [halftonelaw03_CrcBursts.j0] at h
  | k + 1 => by
    have ih0 := halftonelaw03_CrcBursts.mono_l k
    · intro y0 y1 y2 y3
      unfold halftonelaw03_CrcBursts.j0
      repeat' first
      | (with_reducible exact ih0 _ _ _ _)
      | (with_reducible exact crc_Of.mono _ _)
      | (with_reducible exact halftonelaw03_Turned.mono _ _ _ _)
      | (with_reducible exact halftonelaw03_fixed.mono _)
      | (with_reducible exact LeO.refl _)
      | (with_reducible exact LeO.none _)
      | (with_reducible refine LeO.ite ?_ ?_)
      | (with_reducible refine LeO.bind ?_ (fun _ => ?_))
      | exact ih0 _ _ _ _
      | exact crc_Of.mono _ _
      | exact halftonelaw03_Turned.mono _ _ _ _
      | exact halftonelaw03_fixed.mono _
      | exact LeO.none _
      | refine LeO.ite ?_ ?_
      | refine LeO.bind ?_ (fun _ => ?_)
theorem halftonelaw03_CrcBursts.mono : ∀ a0 a1 a2 k, LeO (halftonelaw03_CrcBursts.f k a0 a1 a2) (halftonelaw03_CrcBursts.f (k + 1) a0 a1 a2) := by
  intro a0 a1 a2 k
  have ih0 := halftonelaw03_CrcBursts.mono_l k
  unfold halftonelaw03_CrcBursts.f
  repeat' first
      | (with_reducible exact ih0 _ _ _ _)
      | (with_reducible exact crc_Of.mono _ _)
      | (with_reducible exact halftonelaw03_Turned.mono _ _ _ _)
      | (with_reducible exact halftonelaw03_fixed.mono _)
      | (with_reducible exact LeO.refl _)
      | (with_reducible exact LeO.none _)
      | (with_reducible refine LeO.ite ?_ ?_)
      | (with_reducible refine LeO.bind ?_ (fun _ => ?_))
      | exact ih0 _ _ _ _
      | exact crc_Of.mono _ _
      | exact halftonelaw03_Turned.mono _ _ _ _
      | exact halftonelaw03_fixed.mono _
      | exact LeO.none _
      | refine LeO.ite ?_ ?_
      | refine LeO.bind ?_ (fun _ => ?_)
set_option maxHeartbeats 8000000 in
set_option maxRecDepth 100000 in
theorem halftonelaw03_CrcBursts.calls (k : Nat) (A0 : Option Addr) (c0 : Nat) (l0 : List Int) (a1 : Int) (a2 : Int) (r : Bool) (w : World) (hr0 : Kd.C (Kd.int .u8) w A0 l0.length l0) (hc0 : l0.length ≤ c0) (h : halftonelaw03_CrcBursts.f k l0 a1 a2 = some r) :
    Calls Try.prog 6 #[.slice A0 l0.length c0, .int .u16 a1, .int .u32 a2] w fun e w' => e = .returned (.bool r) ∧ Below w.heap.size w w' := by
  have HR0 := Aside0.mk hr0
  have HC0 := Aside0.mk hc0
  clear hr0 hc0
  have HB := Aside0.mk (Below.refl w.heap.size w)
  have H : ((halftonelaw03_fixed.f k).bind fun t125 => (if t125 = true then (if (l0.length : Int) = 0 then (halftonelaw03_CrcBursts.j0 k l0 a1 a2 true) else (halftonelaw03_CrcBursts.j0 k l0 a1 a2 (decide ((l0.length : Int) > 2000)))) else (some false))) = some r := h
  clear h
  replace H := Option.bind_eq_some_iff.mp H
  obtain ⟨t125, A40, H⟩ := H
  replace H : (if t125 = true then (if (l0.length : Int) = 0 then (halftonelaw03_CrcBursts.j0 k l0 a1 a2 true) else (halftonelaw03_CrcBursts.j0 k l0 a1 a2 (decide ((l0.length : Int) > 2000)))) else (some false)) = some r := H
  have A4 := Aside0.mk A40
  clear A40
  by_cases c5 : t125 = true
  · subst c5
    have H1 : (if (l0.length : Int) = 0 then (halftonelaw03_CrcBursts.j0 k l0 a1 a2 true) else (halftonelaw03_CrcBursts.j0 k l0 a1 a2 (decide ((l0.length : Int) > 2000)))) = some r := by rw [if_pos rfl] at H; exact H
    clear H
    have H := H1
    clear H1
    have HC6 := Aside0.mk H
    clear H
    go_enter Try.func6, Try.ntmps6
    go_upto_region 3 with (first | ((with_reducible refine gate_callee (f := 8) rfl ?_); refine goesL_ (some 8) rfl rfl Try.func8 (by kernel_rfl) rfl #[] rfl (by (try simp only [List.map_toArray, List.map_cons, List.map_nil]); first | done | rfl | (simp only [List.length_drop, List.length_take]; rfl)) ?_; (with_reducible refine (halftonelaw03_fixed.calls k  true _ A4.out).mono ?_); rintro e w7 ⟨rfl, hb⟩; refine ⟨_, rfl, ?_⟩; have n0_ := Aside0.mk (below_step (by repeat (first | (with_reducible first | exact HB.out | apply below_alloc | apply pw_below_drewN | apply below_drew1) | exact HB.out)) hb); clear HB; have HB := n0_; clear n0_; (try clear hb); (try clear hb2); (try clear hk); (try clear hi)))
    (try simp only [Act.put, List.setIfInBounds_toArray, List.set_cons_zero, List.set_cons_succ])
    go_cut [17] (fun v17 wc => ∃ (kq : Nat) (x17_5 : Bool), v17 = .bool x17_5 ∧ Aside0 (halftonelaw03_CrcBursts.j0 kq l0 a1 a2 x17_5 = some r) ∧ Aside0 (kq ≤ k) ∧ Aside0 (Below w.heap.size w wc))
    case first =>
      have H := HC6.out
      clear HC6
      by_cases c8 : (l0.length : Int) = 0
      · rw [if_pos c8] at H
        have c8b0 : ((l0.length : Int) == 0) = true := beq_iff_eq.mpr c8
        have c8b1 : ((l0.length : Int) != 0) = false := bne_eq_false_iff_eq.mpr c8
        clear c8
        (first | rw [c8b0] | (simp only [i64_w, i32_w]; rw [c8b0]) | skip)
        have H' := Aside0.mk H
        clear H
        go_wp2
        go_meet
        case rel => exact ⟨_, (true), (by first | rfl | (simp; done) | (simp [*]; done)), H', ⟨by first | omega | exact Nat.le_refl _⟩, ⟨by repeat (first | (with_reducible first | exact HB.out | apply below_alloc | apply pw_below_drewN | apply below_drew1) | exact HB.out)⟩⟩
      · rw [if_neg c8] at H
        have c8b0 : ((l0.length : Int) == 0) = false := beq_eq_false_iff_ne.mpr c8
        have c8b1 : ((l0.length : Int) != 0) = true := bne_iff_ne.mpr c8
        have c8b2 : ¬ (l0 = []) := fun h_ => c8 (by rw [h_]; rfl)
        (first | rw [c8b0] | (simp only [i64_w, i32_w]; rw [c8b0]) | skip)
        have H' := Aside0.mk H
        clear H
        go_wp2
        go_meet
        case rel => exact ⟨_, (decide ((l0.length : Int) > 2000)), (by first | rfl | (simp; done) | (simp [*]; done)), H', ⟨by first | omega | exact Nat.le_refl _⟩, ⟨by repeat (first | (with_reducible first | exact HB.out | apply below_alloc | apply pw_below_drewN | apply below_drew1) | exact HB.out)⟩⟩
    case rest =>
      clear HC6
      try clear p2
      try clear c5
      try clear c6
      try clear c8
      try clear c8b0
      try clear c8b1
      try clear c8b2
      obtain ⟨kq, x17_5, rfl, HA, HJ5, HB⟩ := hcut
      cases kq with
      | zero => exact absurd HA.out (by simp [halftonelaw03_CrcBursts.j0])
      | succ kj5 =>
        have H := HA.out
        clear HA
        simp only [halftonelaw03_CrcBursts.j0] at H
        by_cases c9 : x17_5 = true
        · subst c9
          have H1 : (some true) = some r := by rw [if_pos rfl] at H; exact H
          clear H
          have H := H1
          clear H1
          obtain rfl := Option.some.inj H
          go_wp2
          go_ret
          exact ⟨by first | rfl | (simp [errW_none, errW_some] <;> rfl) | (simp [*, errW_none, errW_some] <;> rfl), by repeat (first | (with_reducible first | exact HB.out | apply below_alloc | apply pw_below_drewN | apply below_drew1) | exact HB.out)⟩
        · replace c9 := Bool.eq_false_iff.mpr c9
          subst c9
          have H1 : (if (wrap64 (8 * (l0.length : Int))) = 0 then (none) else ((halftonelaw03_Turned.f kj5 l0 (Int.tmod (wrap64 (a1)) (wrap64 (8 * (l0.length : Int)))) a2).bind fun t126 => ((halftoneref01_Same.f l0 t126).bind fun t129 => ((crc_Of.f kj5 (([l0] : List (List Int)))).bind fun t133 => ((crc_Of.f kj5 (([t126] : List (List Int)))).bind fun t137 => (some (t129 == (t133 == t137)))))))) = some r := by rw [if_neg (show ¬ (false = true) by decide)] at H; exact H
          clear H
          have H := H1
          clear H1
          by_cases c10 : (wrap64 (8 * (l0.length : Int))) = 0
          · rw [if_pos c10] at H
            exact absurd H (by simp)
          · rw [if_neg c10] at H
            have c10b0 : ((wrap64 (8 * (l0.length : Int))) == 0) = false := beq_eq_false_iff_ne.mpr c10
            have c10b1 : ((wrap64 (8 * (l0.length : Int))) != 0) = true := bne_iff_ne.mpr c10
            replace H := Option.bind_eq_some_iff.mp H
            obtain ⟨t126, A110, H⟩ := H
            replace H : ((halftoneref01_Same.f l0 t126).bind fun t129 => ((crc_Of.f kj5 (([l0] : List (List Int)))).bind fun t133 => ((crc_Of.f kj5 (([t126] : List (List Int)))).bind fun t137 => (some (t129 == (t133 == t137)))))) = some r := H
            have A11 := Aside0.mk A110
            clear A110
            replace H := Option.bind_eq_some_iff.mp H
            obtain ⟨t129, A120, H⟩ := H
            replace H : ((crc_Of.f kj5 (([l0] : List (List Int)))).bind fun t133 => ((crc_Of.f kj5 (([t126] : List (List Int)))).bind fun t137 => (some (t129 == (t133 == t137))))) = some r := H
            have A12 := Aside0.mk A120
            clear A120
            obtain ⟨y130, hy130⟩ : ∃ y_ : List (List Int), y_ = (([l0] : List (List Int))) := ⟨_, rfl⟩
            replace H : ((crc_Of.f kj5 y130).bind fun t133 => ((crc_Of.f kj5 (([t126] : List (List Int)))).bind fun t137 => (some (t129 == (t133 == t137))))) = some r := by first | (rw [hy130]; with_reducible exact H) | (have H2_ := (Option.bind_some _ _).symm.trans H; rw [hy130]; with_reducible exact H2_) | (have H2_ := (Option.bind_some _ _).symm.trans H; with_reducible exact H2_) | with_reducible exact H | (rw [hy130]; exact H) | exact H
            have Ny130 := Aside0.mk hy130
            clear hy130
            replace H := Option.bind_eq_some_iff.mp H
            obtain ⟨t133, A130, H⟩ := H
            replace H : ((crc_Of.f kj5 (([t126] : List (List Int)))).bind fun t137 => (some (t129 == (t133 == t137)))) = some r := H
            have A13 := Aside0.mk A130
            clear A130
            obtain ⟨y134, hy134⟩ : ∃ y_ : List (List Int), y_ = (([t126] : List (List Int))) := ⟨_, rfl⟩
            replace H : ((crc_Of.f kj5 y134).bind fun t137 => (some (t129 == (t133 == t137)))) = some r := by first | (rw [hy134]; with_reducible exact H) | (have H2_ := (Option.bind_some _ _).symm.trans H; rw [hy134]; with_reducible exact H2_) | (have H2_ := (Option.bind_some _ _).symm.trans H; with_reducible exact H2_) | with_reducible exact H | (rw [hy134]; exact H) | exact H
            have Ny134 := Aside0.mk hy134
            clear hy134
            replace H := Option.bind_eq_some_iff.mp H
            obtain ⟨t137, A140, H⟩ := H
            replace H : (some (t129 == (t133 == t137))) = some r := H
            have A14 := Aside0.mk A140
            clear A140
            obtain rfl := Option.some.inj H
            go_wp2_with (first | ((with_reducible refine gate_callee (f := 15) rfl ?_); refine goesL_ (some 26) rfl rfl Try.func15 (by kernel_rfl) rfl #[.slice A0 l0.length c0, .int .i64 (Int.tmod (wrap64 (a1)) (wrap64 (8 * (l0.length : Int)))), .int .u32 a2] rfl (by (try simp only [List.map_toArray, List.map_cons, List.map_nil]); first | done | rfl | (simp only [List.length_drop, List.length_take]; rfl)) ?_; (with_reducible refine (halftonelaw03_Turned.calls kj5 _ _ l0 (Int.tmod (wrap64 (a1)) (wrap64 (8 * (l0.length : Int)))) a2 t126 _ ?side1 ?side2 A11.out).mono ?_); (case side1 => repeat (first | exact (Kd.C_below HR0.out HB.out) | (with_reducible refine Kd.C_alloc ?_ _) | (with_reducible refine Kd.C_drewN ?_ _) | (with_reducible refine Kd.C_drew ?_))); (case side2 => exact HC0.out); rintro e w15 ⟨v127, rfl, ho0, hb⟩; refine ⟨_, rfl, ?_⟩; have n0_ := Aside0.mk (Kd.R_lower ho0 (below_size (by repeat (first | (with_reducible first | exact HB.out | apply below_alloc | apply pw_below_drewN | apply below_drew1) | exact HB.out)))); have n1_ := Aside0.mk (below_step (by repeat (first | (with_reducible first | exact HB.out | apply below_alloc | apply pw_below_drewN | apply below_drew1) | exact HB.out)) hb); clear HB; have HO128 := n0_; have HB := n1_; clear n0_ n1_; (try clear hb); (try clear hb2); (try clear hk); (try clear hi); (try clear ho0); obtain ⟨Ao16, co16, eo16⟩ := Kd.R_slice HO128.out; subst eo16) | ((with_reducible refine gate_callee (f := 13) rfl ?_); refine goesL_ (some 29) rfl rfl Try.func13 (by kernel_rfl) rfl #[.slice A0 l0.length c0, .slice Ao16 t126.length co16] rfl (by (try simp only [List.map_toArray, List.map_cons, List.map_nil]); first | done | rfl | (simp only [List.length_drop, List.length_take]; rfl)) ?_; (with_reducible refine (halftoneref01_Same.calls _ _ l0 _ _ t126 t129 _ ?side1 ?side2 ?side3 ?side4 A12.out).mono ?_); (case side1 => repeat (first | exact (Kd.C_below HR0.out HB.out) | (with_reducible refine Kd.C_alloc ?_ _) | (with_reducible refine Kd.C_drewN ?_ _) | (with_reducible refine Kd.C_drew ?_))); (case side2 => exact HC0.out); (case side3 => repeat (first | exact (Kd.R_reads' HO128.out).2.2 | (with_reducible refine Kd.C_alloc ?_ _) | (with_reducible refine Kd.C_drewN ?_ _) | (with_reducible refine Kd.C_drew ?_))); (case side4 => exact (Kd.R_reads' HO128.out).2.1); rintro e w' ⟨rfl, ⟨nd, rfl⟩⟩; refine ⟨_, rfl, ?_⟩) | ((with_reducible refine gate_dst (N := 31) rfl ?_); (try (refine gate_guard (by rfl) ?_; dsimp only)); refine Kd.N_lit (Kd.slice 5 (Kd.int .u8)) _ 23 ?hg (N' := 31) ?hd (xs := ([l0] : List (List Int))) (inner := [.slice A0 l0.length c0]) (ok := (fun k_ => some k_ ≠ (.slice Ao16 t126.length co16 : Value).ownBlock)) (okp := (fun k_ => some k_ ≠ (.slice Ao16 t126.length co16 : Value).ownBlock)) ?hr ?hp (fun _ hk => hk) ((show ∀ k_, w15.heap.size ≤ k_ → (fun k_ => some k_ ≠ (.slice Ao16 t126.length co16 : Value).ownBlock) k_ from fun k_ hk => Kd.fresh' (Kd.R_lt (by (with_reducible repeat (first | apply Kd.R_alloc | apply Kd.R_drewN | apply Kd.R_drew)); exact HO128.out)) k_ hk) _ (Nat.le_refl _)) (Below.refl _ _) (Nat.le_refl _) (by simp) ?_; (case hd => rfl); (case hg => rfl); (case hr => first | (go_simp; done) | (go_simp; rfl)); (case hp => exact (Reps.one (show Kd.FK (Kd.slice 5 (Kd.int .u8)) _ _ l0 [.slice A0 l0.length c0] from (Kd.FK_slice_mk HC0.out (Kd.F_mono (ok' := (fun k_ => some k_ ≠ (.slice Ao16 t126.length co16 : Value).ownBlock)) (Kd.F_below (Kd.C_F (Kd.heap_int .u8) HR0.out) (by repeat (first | (with_reducible first | exact HB.out | apply below_alloc | apply pw_below_drewN | apply below_drew1) | exact HB.out))) (fun k_ hk => (fun he_ => Nat.lt_irrefl _ (Nat.lt_of_lt_of_le hk (Kd.R_base HO128.out _ he_.symm))))))) (Reps.none _ _))); intro v131 w17 ho18 hb hg_ hnew_; clear hg_ hnew_; (first | rw [← Ny130.out] at ho18 | (simp only [Int.reduceToNat] at ho18; rw [← Ny130.out] at ho18)); have n0_ := Aside0.mk (Kd.R_below (by (with_reducible repeat (first | apply Kd.R_alloc | apply Kd.R_drewN | apply Kd.R_drew)); exact HO128.out) hb); have n1_ := Aside0.mk (Kd.N_lower ho18 (below_size (by repeat (first | (with_reducible first | exact HB.out | apply below_alloc | apply pw_below_drewN | apply below_drew1) | exact HB.out)))); have n2_ := Aside0.mk (below_step (by repeat (first | (with_reducible first | exact HB.out | apply below_alloc | apply pw_below_drewN | apply below_drew1) | exact HB.out)) hb); clear HO128; clear HB; have HO128 := n0_; have HO132 := n1_; have HB := n2_; clear n0_ n1_ n2_; clear hb ho18; obtain ⟨Ao19, co19, eo19⟩ := Kd.N_slice HO132.out; subst eo19) | ((with_reducible refine gate_callee (f := 11) rfl ?_); refine goesL_ (some 32) rfl rfl Try.func11 (by kernel_rfl) rfl #[.slice Ao19 y130.length co19] rfl (by (try simp only [List.map_toArray, List.map_cons, List.map_nil]); first | done | rfl | (simp only [List.length_drop, List.length_take]; rfl)) ?_; (with_reducible refine (crc_Of.calls kj5 _ _ y130 t133 _ ?side1 ?side2 A13.out).mono ?_); (case side1 => repeat (first | exact (Kd.N_reads' HO132.out).2.2 | (with_reducible refine Kd.C_alloc ?_ _) | (with_reducible refine Kd.C_drewN ?_ _) | (with_reducible refine Kd.C_drew ?_))); (case side2 => exact (Kd.N_reads' HO132.out).2.1); rintro e w' ⟨rfl, ⟨nd, rfl⟩⟩; refine ⟨_, rfl, ?_⟩) | ((with_reducible refine gate_dst (N := 34) rfl ?_); (try (refine gate_guard (by rfl) ?_; dsimp only)); refine Kd.N_lit (Kd.slice 5 (Kd.int .u8)) _ 23 ?hg (N' := 34) ?hd (xs := ([t126] : List (List Int))) (inner := [.slice Ao16 t126.length co16]) (ok := (fun k_ => some k_ ≠ (.slice Ao19 y130.length co19 : Value).ownBlock)) (okp := (fun k_ => some k_ ≠ (.slice Ao19 y130.length co19 : Value).ownBlock)) ?hr ?hp (fun _ hk => hk) ((show ∀ k_, w17.heap.size ≤ k_ → (fun k_ => some k_ ≠ (.slice Ao19 y130.length co19 : Value).ownBlock) k_ from fun k_ hk => Kd.fresh' (Kd.N_lt (by (with_reducible repeat (first | apply Kd.N_alloc | apply Kd.N_drewN | apply Kd.N_drew)); exact HO132.out)) k_ hk) _ (Nat.le_refl _)) (Below.refl _ _) (Nat.le_refl _) (by simp) ?_; (case hd => rfl); (case hg => rfl); (case hr => first | (go_simp; done) | (go_simp; rfl)); (case hp => exact (Reps.one (show Kd.FK (Kd.slice 5 (Kd.int .u8)) _ _ t126 [.slice Ao16 t126.length co16] from (Kd.FK_slice_mk (Kd.R_reads' (Kd.R_mono (ok' := (fun k_ => some k_ ≠ (.slice Ao19 y130.length co19 : Value).ownBlock)) (Kd.R_apart' (HO128.out) (Kd.N_typed HO132.out) (by decide)) (fun k_ hk => hk.2))).2.1 (Kd.R_F (Kd.R_mono (ok' := (fun k_ => some k_ ≠ (.slice Ao19 y130.length co19 : Value).ownBlock)) (Kd.R_apart' (HO128.out) (Kd.N_typed HO132.out) (by decide)) (fun k_ hk => hk.2))))) (Reps.none _ _))); intro v135 w20 ho21 hb hg_ hnew_; clear hg_ hnew_; (first | rw [← Ny134.out] at ho21 | (simp only [Int.reduceToNat] at ho21; rw [← Ny134.out] at ho21)); have n0_ := Aside0.mk (Kd.N_elder' (by (with_reducible repeat (first | apply Kd.N_alloc | apply Kd.N_drewN | apply Kd.N_drew)); exact HO132.out) (Kd.N_base ho21) hb); have n1_ := Aside0.mk (Kd.N_lower ho21 (below_size (by repeat (first | (with_reducible first | exact HB.out | apply below_alloc | apply pw_below_drewN | apply below_drew1) | exact HB.out)))); have n2_ := Aside0.mk (below_step (by repeat (first | (with_reducible first | exact HB.out | apply below_alloc | apply pw_below_drewN | apply below_drew1) | exact HB.out)) hb); clear HO132; clear HB; clear HO128; have HO132 := n0_; have HO136 := n1_; have HB := n2_; clear n0_ n1_ n2_; clear hb ho21; obtain ⟨Ao22, co22, eo22⟩ := Kd.N_slice HO136.out; subst eo22) | ((with_reducible refine gate_callee (f := 11) rfl ?_); refine goesL_ (some 35) rfl rfl Try.func11 (by kernel_rfl) rfl #[.slice Ao22 y134.length co22] rfl (by (try simp only [List.map_toArray, List.map_cons, List.map_nil]); first | done | rfl | (simp only [List.length_drop, List.length_take]; rfl)) ?_; (with_reducible refine (crc_Of.calls kj5 _ _ y134 t137 _ ?side1 ?side2 A14.out).mono ?_); (case side1 => repeat (first | exact (Kd.N_reads' HO136.out).2.2 | (with_reducible refine Kd.C_alloc ?_ _) | (with_reducible refine Kd.C_drewN ?_ _) | (with_reducible refine Kd.C_drew ?_))); (case side2 => exact (Kd.N_reads' HO136.out).2.1); rintro e w' ⟨rfl, ⟨nd, rfl⟩⟩; refine ⟨_, rfl, ?_⟩))
            go_ret
            exact ⟨by first | rfl | (simp [errW_none, errW_some] <;> rfl) | (simp [*, errW_none, errW_some] <;> rfl), by repeat (first | (with_reducible first | exact HB.out | apply below_alloc | apply pw_below_drewN | apply below_drew1) | exact HB.out)⟩
  · replace c5 := Bool.eq_false_iff.mpr c5
    subst c5
    have H1 : (some false) = some r := by rw [if_neg (show ¬ (false = true) by decide)] at H; exact H
    clear H
    have H := H1
    clear H1
    obtain rfl := Option.some.inj H
    go_enter Try.func6, Try.ntmps6
    go_wp2_with (first | ((with_reducible refine gate_callee (f := 8) rfl ?_); refine goesL_ (some 8) rfl rfl Try.func8 (by kernel_rfl) rfl #[] rfl (by (try simp only [List.map_toArray, List.map_cons, List.map_nil]); first | done | rfl | (simp only [List.length_drop, List.length_take]; rfl)) ?_; (with_reducible refine (halftonelaw03_fixed.calls k  false _ A4.out).mono ?_); rintro e w23 ⟨rfl, hb⟩; refine ⟨_, rfl, ?_⟩; have n0_ := Aside0.mk (below_step (by repeat (first | (with_reducible first | exact HB.out | apply below_alloc | apply pw_below_drewN | apply below_drew1) | exact HB.out)) hb); clear HB; have HB := n0_; clear n0_; (try clear hb); (try clear hb2); (try clear hk); (try clear hi)))
    go_ret
    exact ⟨by first | rfl | (simp [errW_none, errW_some] <;> rfl) | (simp [*, errW_none, errW_some] <;> rfl), by repeat (first | (with_reducible first | exact HB.out | apply below_alloc | apply pw_below_drewN | apply below_drew1) | exact HB.out)⟩

/-- THE ONE PURE STATEMENT of halftonelaw03_CrcBursts: yours. -/
def halftonelaw03_CrcBursts.Pure : Prop := ∀ (l0 : List Int) (a1 : Int) (a2 : Int), l0.length ≤ maxLen → l0.length * 1 ≤ 140737488351232 → (∀ x ∈ l0, (Lit.int .u8 x).wf = true) → (Lit.int .u16 a1).wf = true → (Lit.int .u32 a2).wf = true → ∃ k, halftonelaw03_CrcBursts.f k l0 a1 a2 = some true
theorem halftonelaw03_CrcBursts.walk (P : halftonelaw03_CrcBursts.Pure) (a0 : Option Addr) (len0 cap0 : Nat) (z0 : List Int) (a1 : Int) (a2 : Int) (w : World) (w0 : (a0 = none ∧ len0 = 0 ∧ cap0 = 0 ∧ z0 = []) ∨ ∃ x, a0 = some x ∧ len0 ≤ cap0 ∧ cap0 ≤ maxLen ∧ z0.length = cap0 ∧ (∀ i, i < z0.length → w.cell? (x.add i) = some (.int .u8 (z0.getD i 0))) ∧ ∀ n ∈ z0, (Lit.int .u8 n).wf = true) (y0 : len0 * 1 ≤ 140737488351232) (w1 : (Lit.int .u16 a1).wf = true) (w2 : (Lit.int .u32 a2).wf = true) :
    Calls Try.prog 6 #[.slice a0 len0 cap0, .int .u16 a1, .int .u32 a2] w fun e w' => e = .returned (.bool true) ∧ Below w.heap.size w w' := by
  obtain ⟨l0, rfl, hr0, hm0, hw0, hc0⟩ := ReadsInt.ofRowC w0
  obtain ⟨k, h⟩ := P l0 a1 a2 hm0 y0 hw0 w1 w2
  refine (halftonelaw03_CrcBursts.calls k _ _ l0 a1 a2 true w (Kd.C_of_reads (d := (0 : Int)) (h1 := fun _ => rfl) hr0) hc0 h).mono ?_
  rintro e w' ⟨rfl, hd⟩
  exact ⟨rfl, hd⟩


end Go.Proofs.Yteeahkioeabmoaa.Lib
