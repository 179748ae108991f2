/- receiver: Take of an item that may come: walked by hand. -/
import Derived.Test.YthkiedkifhloeaaV2
import Derived.Test.YthkiedkifhloeaaP0
namespace Go.Proofs.Ythkiedkifhloeaa.Lib
open Go.RowKit Go.Proofs.YthkiedkifhloeaaW.PrintWords Go.Proofs.YthkiedkifhloeaaW.PrintLast Go.Proofs.YthkiedkifhloeaaW.PrintMore
attribute [local go_sem] max2_int min2_int max_two min_two max_three min_three max_four min_four
set_option linter.unusedVariables false
set_option linter.unusedSimpArgs false
/-- a look-up in the receiver's map -/
theorem look_some {W : World} {mb : Nat} {F : List (Int × Hd)} (h : W.ownsMap Try.prog 3 tokR mb F.length (Dt F)) {i : Int} {x : Hd} (hi : (Lit.int .i64 i).wf = true) (hx : atF F i = some x) :
    ∀ j, (Instr.lookup 49 (.map (some mb)) (.int .i64 i) true).run Try.prog (W.drewN j) = .ok (.tuple #[.slice x.1 x.2.1 x.2.2, .bool true]) (W.drewN j) := by
  intro j
  obtain ⟨v, ps, hrun, hv⟩ := (h.drewN j).look_ok K3 Try.underlying49 (Try.zeroValue22 _) (zd := .held (.slice none 0 0)) (zp := []) rfl (key3 hi)
  rw [has_Dt, hx] at hrun
  rw [at_Dt, hx] at hv
  have e : v = Go.Proofs.Ythkiedkifhloeaa.Lib.hv x := by
    unfold tokR at hv
    simp at hv
    exact hv.1
  rw [e] at hrun
  exact hrun
theorem look_none {W : World} {mb : Nat} {F : List (Int × Hd)} (h : W.ownsMap Try.prog 3 tokR mb F.length (Dt F)) {i : Int} (hi : (Lit.int .i64 i).wf = true) (hx : atF F i = none) :
    ∀ j, (Instr.lookup 49 (.map (some mb)) (.int .i64 i) true).run Try.prog (W.drewN j) = .ok (.tuple #[.slice none 0 0, .bool false]) (W.drewN j) := by
  intro j
  obtain ⟨v, ps, hrun, hv⟩ := (h.drewN j).look_ok K3 Try.underlying49 (Try.zeroValue22 _) (zd := .held (.slice none 0 0)) (zp := []) rfl (key3 hi)
  rw [has_Dt, hx] at hrun
  rw [at_Dt, hx] at hv
  have e : v = .slice none 0 0 := by
    unfold tokR at hv
    simp at hv
    exact hv.1
  rw [e] at hrun
  exact hrun
/-- the next item, as the world has it -/
def nextOf (W : World) (g : Nat) : Int := match W.cell? ⟨g, 2, none⟩ with
  | some (.int _ x) => x
  | _ => 0
theorem IsRv.nextOf_eq {W : World} {g mb : Nat} {n w nx : Int} {F : List (Int × Hd)} (h : IsRv W g mb n w nx F) : nextOf W g = nx := by
  have := blk_cell h.blk 2
  unfold nextOf
  rw [this]
  rfl
set_option maxHeartbeats 4000000 in
set_option maxRecDepth 100000 in
theorem take_yes {W : World} {g mb B : Nat} {n w nx : Int} {F : List (Int × Hd)} (h : IsRv W g mb n w nx F) (hB : B ≤ g ∧ B ≤ mb) (hb : RvB n w nx F) (i : Int) (hi : nx ≤ i ∧ i < n ∧ i < nx + w) (hn : atF F i = none) (A : Option Addr) (m c : Nat) (xs : List Int) (hm : xs.length = m) (hC : Kd.C (Kd.int .u8) W A m xs) (hl : m ≤ 1000000) :
    Calls Try.prog 10 #[.pointer (some ⟨g, 0, none⟩), .int .i64 i, .slice A m c] W fun e W' => ∃ A1 c1 Ao No co hs, e = .returned (.tuple #[.slice Ao No co, .bool true]) ∧ IsRv W' g mb n w (popL nx (insF i (A1, m, c1) F)).1 (popL nx (insF i (A1, m, c1) F)).2.1 ∧ (popL nx (insF i (A1, m, c1) F)).2.2 = hs ∧ hs.length = No ∧
      Kd.R ksl 22 W' W.heap.size (fun _ => True) (.slice Ao No co) hs ∧ Kd.R (Kd.int .u8) 5 W' W.heap.size (fun _ => True) (.slice A1 m c1) xs ∧ Kept W W' (fun k => k = g ∨ k = mb) ∧ Below B W W' := by
  have hg0 := blk_cell h.blk 0
  have hg1 := blk_cell h.blk 1
  have hg2 := blk_cell h.blk 2
  have hg3 := blk_cell h.blk 3
  have hwa : wrap64 (nx + w) = nx + w := by have := hb.n0; have := hb.n1; have := hb.n2; have := hb.w2; have := hb.w1; unfold wrap64; omega
  have hwf : (Lit.int .i64 i).wf = true := wf64 (by have := hb.n0; have := hb.n2; omega)
  have HWF := Aside0.mk hwf
  have HI := Aside0.mk hi
  have HN := Aside0.mk hn
  have HB := Aside0.mk hB
  have HBD := Aside0.mk hb
  have HM := Aside0.mk hm
  have HC := Aside0.mk hC
  have H := Aside0.mk h
  have d1 : decide (i < nx) = false := decide_eq_false (by omega)
  obtain ⟨mm, hmm, hmi⟩ : ∃ mm : Int, (if nx + w < n then nx + w else n) = mm ∧ i < mm := ⟨_, rfl, by split <;> omega⟩
  have d2 : decide (mm ≤ i) = false := decide_eq_false (by omega)
  clear h hi hn hB hb hm hC hwf hmi
  go_enter Try.func10, Try.ntmps10
  go_wp2
  go_step3
  go_wp2
  go_quiet (fail)
  have hlk := look_none H.out.mp HWF.out HN.out nq
  go_wp2
  clear hlk
  refine start_ (n := 8) (S := fun w' => w'.cell? ⟨g, 3, none⟩ = some (.map (some mb))) (ds := []) #[false, false, false, false, false, false, false, false] (by kernel_rfl) rfl rfl (hg3) (fun hHeld => ?_)
  have HDR := Aside0.mk (show Below W.heap.size W (W.drewN nq).drew from below_drew (pw_below_drewN (Below.refl _ _) nq))
  generalize (W.drewN nq).drew = wd at HDR hHeld ⊢
  have H1 := Aside0.mk (H.out.below HDR.out)
  refine pure_ (i := 0) (N := some 51) (v := ?_) (a' := ?_) #[true, false, false, false, false, false, false, false] rfl rfl (by kernel_rfl) (fun _ _ _ h => h) (Or.inl ⟨by rfl, ?_⟩) ?_ ?_
  rotate_left
  · intro w'
    go_simp
    with_reducible rfl
  rotate_left
  · simp only [Act.put, List.setIfInBounds_toArray, List.set_cons_zero, List.set_cons_succ, i64_w, i32_w]
    rfl
  refine pure_ (i := 1) (N := some 52) (v := ?_) (a' := ?_) #[true, true, false, false, false, false, false, false] rfl rfl (by kernel_rfl) (fun _ _ _ h => h) (Or.inl ⟨by rfl, ?_⟩) ?_ ?_
  rotate_left
  · intro w'
    go_simp
    with_reducible rfl
  rotate_left
  · simp only [Act.put, List.setIfInBounds_toArray, List.set_cons_zero, List.set_cons_succ, i64_w, i32_w]
    rfl
  refine pure_ (i := 2) (N := some 53) (v := ?_) (a' := ?_) #[true, true, true, false, false, false, false, false] rfl rfl (by kernel_rfl) (fun _ _ _ h => h) (Or.inl ⟨by rfl, ?_⟩) ?_ ?_
  rotate_left
  · intro w'
    go_simp
    with_reducible rfl
  rotate_left
  · simp only [Act.put, List.setIfInBounds_toArray, List.set_cons_zero, List.set_cons_succ, i64_w, i32_w]
    rfl
  refine take_ (i := 3) (N := some 54) (v := ?_) (a' := ?_) #[true, true, true, true, false, false, false, false] rfl rfl (by kernel_rfl) (fun _ _ _ h => h) (Or.inl ⟨by rfl, ?_⟩) hHeld ?_ ?_
  rotate_left
  · rintro w' s0
    go_simp
    with_reducible rfl
  rotate_left
  · simp only [Act.put, List.setIfInBounds_toArray, List.set_cons_zero, List.set_cons_succ, i64_w, i32_w]
    rfl
  refine pure_ (i := 4) (N := some 55) (v := ?_) (a' := ?_) #[true, true, true, true, true, false, false, false] rfl rfl (by kernel_rfl) (fun _ _ _ h => h) (Or.inl ⟨by rfl, ?_⟩) ?_ ?_
  rotate_left
  · intro w'
    go_simp
    with_reducible rfl
  rotate_left
  · simp only [Act.put, List.setIfInBounds_toArray, List.set_cons_zero, List.set_cons_succ, i64_w, i32_w]
    rfl
  refine pure_ (i := 5) (N := some 56) (v := ?_) (a' := ?_) #[true, true, true, true, true, true, false, false] rfl rfl (by kernel_rfl) (fun _ _ _ h => h) (Or.inl ⟨by rfl, ?_⟩) ?_ ?_
  rotate_left
  · intro w'
    go_simp
    with_reducible rfl
  rotate_left
  · simp only [Act.put, List.setIfInBounds_toArray, List.set_cons_zero, List.set_cons_succ, i64_w, i32_w]
    rfl
  refine one_ (i := 6) (N := some 57) #[true, true, true, true, true, true, true, false] rfl rfl (by kernel_rfl) (by decide) (fun K hK => ?_)
  refine goes_ Try.func22 (by kernel_rfl) rfl #[.slice A m c] (by rfl) rfl rfl (by first | rfl | (go_simp; done) | simp [Act.eval]) ?_
  refine (clone_walk A m c xs wd HM.out (Kd.C_below HC.out HDR.out) (by omega)).mono ?_
  rintro e w2 ⟨A1, c1, rfl, hR2, hb2⟩
  refine ⟨_, rfl, ?_⟩
  have H2 := Aside0.mk (H1.out.below hb2)
  have HR2 := Aside0.mk hR2
  have HB2 := Aside0.mk (below_then HDR.out HDR.out.size hb2)
  clear hR2 hb2
  refine hK.out _ _ (blk_cell H2.out.blk 3) (fun _ => ?_)
  clear hK K
  refine norm_ (a' := ?_) ?_ ?_
  rotate_left
  · show Act.put _ (some 57) _ = _
    simp only [Act.put, List.setIfInBounds_toArray, List.set_cons_zero, List.set_cons_succ, i64_w, i32_w]
    rfl
  have hlen : F.length < maxLen := by have := HBD.out.len; have := HBD.out.w2; unfold maxLen; omega
  obtain ⟨w3, hrun3, hown3, hturn3⟩ := H2.out.mp.store K3 Try.underlying49 hlen (key3 HWF.out) (val := .slice A1 m c1) (d := .held (.slice A1 m c1)) (ps := []) rfl
  refine one_ (i := 7) (N := none) #[true, true, true, true, true, true, true, true] rfl rfl (by kernel_rfl) (by decide) (fun K hK => ?_)
  refine skip_ (w1 := w3) (by rfl) rfl ?_ ?_
  · go_simp
  refine hK.out _ _ ((blk_cell (blk_grown H2.out.blk hturn3.grown (by simpa using H2.out.lt.2.2)) 3)) (fun _ => ?_)
  clear hK K
  refine done_ (by kernel_rfl) ?_
  obtain ⟨F1, hF1⟩ : ∃ F1, insF i (A1, m, c1) F = F1 := ⟨_, rfl⟩
  have H3 := Aside0.mk (show IsRv w3 g mb n w nx F1 from by
    rw [← hF1]
    refine ⟨blk_grown H2.out.blk hturn3.grown (by simpa using H2.out.lt.2.2), ?_, insF_asc H.out.asc HN.out _⟩
    rw [insF_length, ← put_Dt HN.out]
    exact hown3)
  have HF1 := Aside0.mk hF1
  have HK3 := Aside0.mk (show Kept W w3 (fun k => k = g ∨ k = mb) from (Kept.of_below HB2.out _).then_ (kept_grown hturn3.grown (S := fun k => k = g ∨ k = mb) (fun k e => .inr (Option.some.inj e).symm)) (fun k hk => .inl hk))
  have HBW3 := Aside0.mk (show Below B W w3 from (HB2.out.mono (by have := H.out.lt; have := HB.out.1; omega)).grown hturn3.grown (by have := H2.out.lt; have := HB.out.1; omega) (fun k e => by obtain rfl := Option.some.inj e; exact HB.out.2))
  have HZ3 := Aside0.mk (show W.heap.size ≤ w3.heap.size from HK3.out.1)
  have HR3 := Aside0.mk (show Kd.R (Kd.int .u8) 5 w3 W.heap.size (fun _ => True) (.slice A1 m c1) xs from Kd.R_mono (Kd.R_lower (Kd.R_kept (Kd.R_bound HR2.out) (kept_grown hturn3.grown (S := fun k => k = mb) (fun k e => (Option.some.inj e).symm)) (fun k hk => by have := hk.2.1; have := H1.out.lt.2.1; omega)) HDR.out.size) (fun _ _ => trivial))
  have HLO := Aside0.mk (show (∀ x ∈ F1, nx ≤ x.1) ∧ (∀ x ∈ F1, x.1 < n) ∧ F1.length ≤ 1000 from by
    rw [← hF1]
    refine ⟨fun x hx => ?_, fun x hx => ?_, ?_⟩
    · rcases (insF_mem i _ F x).1 hx with rfl | hx
      · exact HI.out.1
      · have := HBD.out.lo x hx; omega
    · rcases (insF_mem i _ F x).1 hx with rfl | hx
      · exact HI.out.2.1
      · exact (HBD.out.hi x hx).1
    · rw [insF_length]
      have := HBD.out.len
      have := HBD.out.w2
      omega)
  clear hF1 hown3 hturn3 hrun3 hlen hHeld hg0 hg1 hg2 hg3
  go_wp2
  go_step3
  go_wp2
  rw [hwa]
  clear hwa hmm d1 d2
  go_loopw [10, 11, 12] (fun v10 v11 v12 wr => ∃ (u11 u12 : Value) (nx1 : Int) (F2 : List (Int × Hd)) (hs : List Hd), u11 = v11 ∧ u12 = v12 ∧ Aside0 (IsRv wr g mb n w nx1 F2) ∧ Aside0 (Kd.R ksl 22 wr W.heap.size (fun _ => True) v10 hs) ∧ Aside0 (Kd.R (Kd.int .u8) 5 wr W.heap.size (fun _ => True) (.slice A1 m c1) xs) ∧ Aside0 (Kept W wr (fun k => k = g ∨ k = mb)) ∧ Aside0 (Below B W wr) ∧
      Aside0 (popL nx F1 = ((popL nx1 F2).1, (popL nx1 F2).2.1, hs ++ (popL nx1 F2).2.2)) ∧ Aside0 ((∀ x ∈ F2, nx1 ≤ x.1) ∧ (∀ x ∈ F2, x.1 < n) ∧ 0 ≤ nx1 ∧ nx1 ≤ n ∧ hs.length + F2.length ≤ 1000)) (fun _ _ _ wr => (n - nextOf wr g).toNat)
  case atStart => exact ⟨_, _, nx, F1, [], rfl, rfl, H3, ⟨Kd.R_nil _ _ _ _ _⟩, HR3, HK3, HBW3, ⟨by simp⟩, ⟨HLO.out.1, HLO.out.2.1, HBD.out.n0, HBD.out.n1, by simpa using HLO.out.2.2⟩⟩
  case round =>
    obtain ⟨u11, u12, nx1, F2, hs, rfl, rfl, HV, HS, HX, HK, HBW, HP, HL⟩ := hrel
    obtain ⟨A10, c10, rfl⟩ := Kd.R_slice HS.out
    obtain ⟨N10, hN10⟩ : ∃ N10, hs.length = N10 := ⟨_, rfl⟩
    rw [hN10] at HS ⊢
    have HNN := Aside0.mk hN10
    clear hN10
    obtain ⟨wo, rfl⟩ : ∃ wo : World, wo = wr := ⟨_, rfl⟩
    have hwf1 : (Lit.int .i64 nx1).wf = true := wf64 (by have := HL.out.2.2.1; have := HL.out.2.2.2.1; have := HBD.out.n2; omega)
    have HW1 := Aside0.mk hwf1
    have hg2 := blk_cell HV.out.blk 2
    have hg3 := blk_cell HV.out.blk 3
    clear hwf1
    by_cases hfound : ∃ x F3, F2 = x :: F3 ∧ x.1 = nx1
    · obtain ⟨x, F3, rfl, hx1⟩ := hfound
      have hlk := look_some HV.out.mp HW1.out (show atF (x :: F3) nx1 = some x.2 from by rw [atF_cons, if_pos hx1])
      obtain ⟨k1, A4, m4, c4⟩ := x
      simp only at hlk
      have HX1 := Aside0.mk hx1
      clear hx1
      go_wp2
      go_quiet (fail)
      clear hlk
      have HVA := Aside0.mk HV.out.asc
      have HNX := Aside0.mk HV.out.nextOf_eq
      have HSq := Aside0.mk (Kd.R_drewN HS.out nq)
      have HXq := Aside0.mk (Kd.R_drewN HX.out nq)
      have HZ0 := Aside0.mk (show g < W.heap.size ∧ mb < W.heap.size from ⟨H.out.lt.1, H.out.lt.2.1⟩)
      have HZq := Aside0.mk (show W.heap.size ≤ (wo.drewN nq).heap.size from HK.out.1)
      have HLN := Aside0.mk (show (hs.length + 1) * 24 ≤ 140737488355328 from by have := HL.out.2.2.2.2; omega)
      go_wp2_with (at_builtin; go_loud (refine Kd.R_append ksl (w0 := wo.drewN nq) W.heap.size rfl (.tmp 72) (.tmp 74) 24 22 (.slice none 0 0) 24 rfl Try.underlying24 info22 rfl (by decide) (by decide) (.slice A10 N10 c10) hs (A4, m4, c4) [.slice A4 m4 c4] (fun _ => True) (fun _ => False) rfl rfl rfl (fun _ h => h.elim) (fun _ _ => trivial) HSq.out (Below.refl _ _) HZq.out HLN.out ?_); intro v5 w5 hR5 hb5 hg5 hat5; clear hat5; obtain ⟨A5, c5, rfl⟩ := Kd.R_slice hR5; rw [show (hs ++ [(A4, m4, c4)]).length = N10 + 1 from by rw [List.length_append, HNN.out]; rfl] at hR5 ⊢; have HR5 := Aside0.mk hR5; have HB5 := Aside0.mk hb5; have HG5 := Aside0.mk hg5; clear hR5 hb5 hg5)
      have HX5 := Aside0.mk (Kd.R_over HXq.out HSq.out (by decide) HG5.out)
      have HV5 := Aside0.mk (show IsRv w5 g mb n w nx1 ((k1, A4, m4, c4) :: F3) from HV.out.step (HB5.out.block _ HZ0.out.1) (HB5.out.block _ HZ0.out.2))
      have HK5 := Aside0.mk (show Kept W w5 (fun k => k = g ∨ k = mb) from HK.out.then_ (show Kept wo w5 (fun k => (Value.slice A10 N10 c10).ownBlock = some k) from kept_grown (W := wo.drewN nq) HG5.out (fun k e => e)) (fun k e => .inr (Kd.R_base HSq.out k e)))
      have HBW5 := Aside0.mk (show Below B W w5 from HBW.out.trans ((show Below W.heap.size wo w5 from (pw_below_drewN (Below.refl _ _) nq).trans HB5.out).mono (by have := HB.out.1; have := HZ0.out.1; omega)))
      clear hg2 hg3 HSq HXq HB5 HG5 HV HS HX HK HBW
      have hg2 := blk_cell HV5.out.blk 2
      have hg3 := blk_cell HV5.out.blk 3
      have hn1 : wrap64 (nx1 + 1) = nx1 + 1 := by have := HL.out.2.2.1; have := HL.out.2.2.2.1; have := HBD.out.n2; unfold wrap64; omega
      refine start_ (n := 9) (S := fun w' => w'.cell? ⟨g, 3, none⟩ = some (.map (some mb)) ∧ w'.cell? ⟨g, 2, none⟩ = some (.int .i64 nx1)) (ds := []) #[false, false, false, false, false, false, false, false, false] (by kernel_rfl) rfl rfl (⟨hg3, hg2⟩) (fun hHeld => ?_)
      obtain ⟨wd2, hwd2⟩ : ∃ wd2, w5.drew = wd2 := ⟨_, rfl⟩
      rw [hwd2] at hHeld ⊢
      have H5 := Aside0.mk (show IsRv wd2 g mb n w nx1 ((k1, A4, m4, c4) :: F3) from by rw [← hwd2]; exact HV5.out.below (below_drew (Below.refl _ _)))
      refine pure_ (i := 0) (N := some 76) (v := ?_) (a' := ?_) #[true, false, false, false, false, false, false, false, false] rfl rfl (by kernel_rfl) (fun _ _ _ h => h) (Or.inl ⟨by rfl, ?_⟩) ?_ ?_
      rotate_left
      · intro w'
        go_simp
        with_reducible rfl
      rotate_left
      · simp only [Act.put, List.setIfInBounds_toArray, List.set_cons_zero, List.set_cons_succ, i64_w, i32_w]
        rfl
      refine pure_ (i := 1) (N := some 77) (v := ?_) (a' := ?_) #[true, true, false, false, false, false, false, false, false] rfl rfl (by kernel_rfl) (fun _ _ _ h => h) (Or.inl ⟨by rfl, ?_⟩) ?_ ?_
      rotate_left
      · intro w'
        go_simp
        with_reducible rfl
      rotate_left
      · simp only [Act.put, List.setIfInBounds_toArray, List.set_cons_zero, List.set_cons_succ, i64_w, i32_w]
        rfl
      refine pure_ (i := 2) (N := some 78) (v := ?_) (a' := ?_) #[true, true, true, false, false, false, false, false, false] rfl rfl (by kernel_rfl) (fun _ _ _ h => h) (Or.inl ⟨by rfl, ?_⟩) ?_ ?_
      rotate_left
      · intro w'
        go_simp
        with_reducible rfl
      rotate_left
      · simp only [Act.put, List.setIfInBounds_toArray, List.set_cons_zero, List.set_cons_succ, i64_w, i32_w]
        rfl
      refine take_ (i := 3) (N := some 79) (v := ?_) (a' := ?_) #[true, true, true, true, false, false, false, false, false] rfl rfl (by kernel_rfl) (fun _ _ _ h => h) (Or.inl ⟨by rfl, ?_⟩) hHeld ?_ ?_
      rotate_left
      · rintro w' ⟨s0, s1⟩
        go_simp
        with_reducible rfl
      rotate_left
      · simp only [Act.put, List.setIfInBounds_toArray, List.set_cons_zero, List.set_cons_succ, i64_w, i32_w]
        rfl
      refine pure_ (i := 4) (N := some 80) (v := ?_) (a' := ?_) #[true, true, true, true, true, false, false, false, false] rfl rfl (by kernel_rfl) (fun _ _ _ h => h) (Or.inl ⟨by rfl, ?_⟩) ?_ ?_
      rotate_left
      · intro w'
        go_simp
        with_reducible rfl
      rotate_left
      · simp only [Act.put, List.setIfInBounds_toArray, List.set_cons_zero, List.set_cons_succ, i64_w, i32_w]
        rfl
      refine pure_ (i := 5) (N := some 81) (v := ?_) (a' := ?_) #[true, true, true, true, true, true, false, false, false] rfl rfl (by kernel_rfl) (fun _ _ _ h => h) (Or.inl ⟨by rfl, ?_⟩) ?_ ?_
      rotate_left
      · intro w'
        go_simp
        with_reducible rfl
      rotate_left
      · simp only [Act.put, List.setIfInBounds_toArray, List.set_cons_zero, List.set_cons_succ, i64_w, i32_w]
        rfl
      refine pure_ (i := 6) (N := some 82) (v := ?_) (a' := ?_) #[true, true, true, true, true, true, true, false, false] rfl rfl (by kernel_rfl) (fun _ _ _ h => h) (Or.inl ⟨by rfl, ?_⟩) ?_ ?_
      rotate_left
      · intro w'
        go_simp
        with_reducible rfl
      rotate_left
      · simp only [Act.put, List.setIfInBounds_toArray, List.set_cons_zero, List.set_cons_succ, i64_w, i32_w]
        rfl
      refine take_ (i := 7) (N := some 83) (v := ?_) (a' := ?_) #[true, true, true, true, true, true, true, true, false] rfl rfl (by kernel_rfl) (fun _ _ _ h => h) (Or.inl ⟨by rfl, ?_⟩) hHeld ?_ ?_
      rotate_left
      · rintro w' ⟨s0, s1⟩
        go_simp
        with_reducible rfl
      rotate_left
      · simp only [Act.put, List.setIfInBounds_toArray, List.set_cons_zero, List.set_cons_succ, i64_w, i32_w]
        rfl
      obtain ⟨w6, hrun6, hown6, hturn6⟩ := H5.out.mp.drop K3 Try.underlying49 (key3 HW1.out) 0
      refine one_ (i := 8) (N := none) #[true, true, true, true, true, true, true, true, true] rfl rfl (by kernel_rfl) (by decide) (fun K hK => ?_)
      refine value_ (w1 := w6) (v := .tuple #[]) (by rfl) rfl ?_ ?_
      · go_simp
      refine hK.out _ _ (⟨blk_cell (blk_grown H5.out.blk hturn6.grown (by simpa using H5.out.lt.2.2)) 3, blk_cell (blk_grown H5.out.blk hturn6.grown (by simpa using H5.out.lt.2.2)) 2⟩) (fun _ => ?_)
      clear hK K
      refine done_ (by kernel_rfl) ?_
      clear hg2 hg3 hHeld
      have HV6 := Aside0.mk (show IsRv w6 g mb n w nx1 F3 from by
        refine ⟨blk_grown H5.out.blk hturn6.grown (by simpa using H5.out.lt.2.2), ?_, (List.pairwise_cons.1 HV5.out.asc).2⟩
        have h1 := hown6
        rw [show nx1 = ((k1, A4, m4, c4) : Int × Hd).1 from HX1.out.symm, del_head HV5.out.asc] at h1
        have h2 := own_size h1
        rw [size_Dt] at h2
        exact h2)
      have HX6 := Aside0.mk (show Kd.R (Kd.int .u8) 5 w6 W.heap.size (fun _ => True) (.slice A1 m c1) xs from Kd.R_mono (Kd.R_kept (Kd.R_bound (Kd.R_drew HX5.out)) (kept_grown (W := w5.drew) (hwd2 ▸ hturn6.grown) (S := fun k => k = mb) (fun k e => (Option.some.inj e).symm)) (fun k hk e => by have := hk.2.1; have := HZ0.out.2; omega)) (fun _ _ => trivial))
      have HR6 := Aside0.mk (show Kd.R ksl 22 w6 W.heap.size (fun _ => True) (.slice A5 (N10 + 1) c5) (hs ++ [(A4, m4, c4)]) from Kd.R_mono (Kd.R_kept (Kd.R_bound (Kd.R_drew HR5.out)) (kept_grown (W := w5.drew) (hwd2 ▸ hturn6.grown) (S := fun k => k = mb) (fun k e => (Option.some.inj e).symm)) (fun k hk e => by have := hk.2.1; have := HZ0.out.2; omega)) (fun _ _ => trivial))
      have HK6 := Aside0.mk (show Kept W w6 (fun k => k = g ∨ k = mb) from HK5.out.then_ (show Kept w5 w6 (fun k => k = mb) from kept_grown (W := w5.drew) (hwd2 ▸ hturn6.grown) (fun k e => (Option.some.inj e).symm)) (fun k e => .inl (.inr e)))
      have HBW6 := Aside0.mk (show Below B W w6 from (below_drew HBW5.out).grown (hwd2 ▸ hturn6.grown) (by have := HK5.out.1; have := HZ0.out.2; have := HB.out.2; show B ≤ w5.heap.size; omega) (fun k e => by obtain rfl := Option.some.inj e; exact HB.out.2))
      have hg2 := blk_cell HV6.out.blk 2
      have hf2 := blk_frozen HV6.out.blk 2
      have HT6 := Aside0.mk (show ∃ cs, w6.heap[g]? = some (.cells cs 51 (0, 0)) from ⟨_, HV6.out.blk⟩)
      clear hown6 hturn6 hrun6 hwd2 HR5 HX5 HV5 HK5 HBW5
      go_wp2
      go_roundw
      case rel =>

        obtain ⟨csg, hcsg⟩ := HT6.out
        refine ⟨_, _, nx1 + 1, F3, hs ++ [(A4, m4, c4)], rfl, rfl, ⟨?_⟩, ⟨Kd.R_set HR6.out hcsg (by decide) _ _⟩, ⟨Kd.R_set HX6.out hcsg (by decide) _ _⟩, ⟨kept_set HK6.out (p := ⟨g, 2, none⟩) (.inl rfl) _⟩, ⟨HBW6.out.setCell (p := ⟨g, 2, none⟩) HB.out.1 _⟩, ⟨?_⟩, ⟨fun y hy => ?_, fun y hy => HL.out.2.1 y (List.mem_cons_of_mem _ hy), ?_, ?_, ?_⟩⟩
        · refine ⟨blk_set HV6.out.blk 2 _, ?_, HV6.out.asc⟩
          exact HV6.out.mp.setCell (a := ⟨g, 2, none⟩) (Ne.symm HV6.out.lt.2.2) _
        · have h1 := HP.out
          rw [popL_eq HX1.out] at h1
          rw [h1, List.append_assoc]
          rfl
        · have h1 := (List.pairwise_cons.1 HVA.out).1 y hy
          have h2 := HX1.out
          simp only at h1 h2
          omega
        · have := HL.out.2.2.1; omega
        · have h1 := HL.out.2.1 _ List.mem_cons_self
          have h2 := HX1.out
          simp only at h1 h2
          omega
        · have h1 := HL.out.2.2.2.2
          rw [List.length_cons] at h1
          rw [List.length_append, List.length_singleton]
          omega
      case measure =>
        have e1 : nextOf (w6.setCell ⟨g, 2, none⟩ (.int .i64 (nx1 + 1))) g = nx1 + 1 := by
          have h1 := blk_cell (blk_set HV6.out.blk 2 (.int .i64 (nx1 + 1))) 2
          unfold nextOf
          rw [h1]
          rfl
        rw [e1, HNX.out]
        have h1 := HL.out.2.1 _ List.mem_cons_self
        have h2 := HX1.out
        simp only at h1 h2
        omega
    · have HNF := Aside0.mk (show popL nx1 F2 = (nx1, F2, []) ∧ atF F2 nx1 = none from by
        cases F2 with
        | nil => exact ⟨rfl, rfl⟩
        | cons x F3 =>
          have hx : x.1 ≠ nx1 := fun e => hfound ⟨x, F3, rfl, e⟩
          refine ⟨popL_ne hx, ?_⟩
          rw [atF_cons, if_neg hx]
          obtain ⟨h1, _⟩ := List.pairwise_cons.1 HV.out.asc
          have h0 := HL.out.1 x List.mem_cons_self
          cases hq : atF F3 nx1 with
          | none => rfl
          | some v =>
            have := h1 _ (atF_mem F3 nx1 v hq)
            simp only at this
            omega)
      have hlk := look_none HV.out.mp HW1.out HNF.out.2
      clear hfound
      go_wp2
      go_quiet (fail)
      clear hlk
      go_wp2
      have HPF := Aside0.mk (show popL nx F1 = (nx1, F2, hs) from by rw [HP.out, HNF.out.1, List.append_nil])
      try rw [Exit.noGoto_ret]
      go_ret2
      have hb0 : Below wo.heap.size wo (wo.drewN nq) := pw_below_drewN (Below.refl _ _) nq
      rw [← HF1.out] at HPF
      refine ⟨A1, c1, A10, N10, c10, hs, rfl, ?_, ?_, HNN.out, Kd.R_drewN HS.out nq, Kd.R_drewN HX.out nq, HK.out.then_ (Kept.of_below hb0 (fun _ => False)) (fun _ h => h.elim), pw_below_drewN HBW.out nq⟩
      · rw [HPF.out]
        exact HV.out.below hb0
      · rw [HPF.out]
end Go.Proofs.Ythkiedkifhloeaa.Lib
