/- receiver: Ranges: walked by hand. -/
import Derived.Test.YthkiedkifhloeaaS
import Derived.Test.YthkiedkifhloeaaV2
import Derived.Test.YthkiedkifhloeaaP0
namespace Go.Proofs.Ythkiedkifhloeaa.Lib
open Go.RowKit Go.Maps Go.Proofs.YthkiedkifhloeaaW.PrintWords Go.Proofs.YthkiedkifhloeaaW.PrintLast Go.Proofs.YthkiedkifhloeaaW.PrintMore
attribute [local go_sem] max2_int min2_int max_two min_two max_three min_three max_four min_four
set_option linter.unusedVariables false
set_option linter.unusedSimpArgs false
def z2 : Int × Int := (0, 0)
def kr : Kd (Int × Int) := Kd.pair (Kd.int .i64) (Kd.int .i64)
theorem kr_open {w : World} {x : Int × Int} {cs : List Value} (h : kr.K w x cs) : cs = [.int .i64 x.1, .int .i64 x.2] := by
  obtain ⟨_, _, rfl, rfl, rfl⟩ := h
  exact rfl
theorem kr_openM {w : World} {base : Nat} {ok : Nat → Prop} {x : Int × Int} {cs : List Value} (h : kr.M w base ok x cs) : cs = [.int .i64 x.1, .int .i64 x.2] := by
  obtain ⟨_, _, rfl, rfl, rfl⟩ := h
  exact rfl
theorem kr_mkM (w : World) (base : Nat) (ok : Nat → Prop) (x : Int × Int) : kr.M w base ok x [.int .i64 x.1, .int .i64 x.2] := ⟨[_], [_], rfl, rfl, rfl⟩
theorem info48_ : (Try.prog.info? 48).map (fun i => (i.zero, i.size, i.bytes)) = some (some (.agg #[.int .i64 0, .int .i64 0]), 2, 16) := by kernel_rfl
theorem kr_at {W : World} {base go n co : Nat} {ok : Nat → Prop} {xs : List (Int × Int)} (h : Kd.R kr 48 W base ok (.slice (some ⟨go, 0, none⟩) n co) xs) (i : Nat) (hi : i < n) :
    W.cell? ⟨go, i * 2, none⟩ = some (.int .i64 (xs.getD i z2).1) ∧ W.cell? ⟨go, i * 2 + 1, none⟩ = some (.int .i64 (xs.getD i z2).2) ∧ ∀ j, W.frozen? ⟨go, i * 2 + j, none⟩ = false := by
  obtain ⟨cs, hl, hM, hc, hf⟩ := Kd.R_elem h z2 (i : Int) (by omega) (by omega)
  have e4 : kr.sz = 2 := rfl
  rw [e4] at hc hf
  simp only [Int.toNat_natCast] at hM hc hf
  obtain rfl := kr_openM hM
  exact ⟨by simpa using hc 0 _ rfl, by simpa using hc 1 _ rfl, hf⟩
theorem kr_set {W : World} {base go n co : Nat} {ok : Nat → Prop} {xs : List (Int × Int)} (h : Kd.R kr 48 W base ok (.slice (some ⟨go, 0, none⟩) n co) xs) (i : Nat) (hi : i < n) (u : Int) :
    Kd.R kr 48 (W.setCell ⟨go, i * 2 + 1, none⟩ (.int .i64 u)) base ok (.slice (some ⟨go, 0, none⟩) n co) (xs.set i ((xs.getD i z2).1, u)) := by
  obtain ⟨cs, hl, hM, hc, hf⟩ := Kd.R_elem h z2 (i : Int) (by omega) (by omega)
  have e4 : kr.sz = 2 := rfl
  rw [e4] at hc
  simp only [Int.toNat_natCast] at hM hc
  obtain rfl := kr_openM hM
  have h2 := (Kd.R_seg (okp := fun k => False) h (i : Int) (by omega) (by omega) (seg := [.int .i64 u]) (j := 1) hl (by rw [e4]; exact hc) (by rw [e4]; simp) (x' := ((xs.getD i z2).1, u)) (kr_mkM _ _ _ _) (fun k hk => hk.elim)).1
  rw [e4] at h2
  simpa [World.setCells] using h2
/-- what Ranges tells of the keys -/
def rgL : List Int → List (Int × Int) → List (Int × Int)
  | [], out => out
  | i :: ks, out => if 0 < out.length ∧ (out.getD (out.length - 1) z2).2 = i then rgL ks (out.set (out.length - 1) ((out.getD (out.length - 1) z2).1, i + 1)) else if out.length = 4 then out else rgL ks (out ++ [(i, i + 1)])
theorem rgL_cons (i : Int) (ks : List Int) (out : List (Int × Int)) : rgL (i :: ks) out = if 0 < out.length ∧ (out.getD (out.length - 1) z2).2 = i then rgL ks (out.set (out.length - 1) ((out.getD (out.length - 1) z2).1, i + 1)) else if out.length = 4 then out else rgL ks (out ++ [(i, i + 1)]) := rfl
theorem rows_keys {W : World} {base : Nat} {v : Value} {ks : List Int} (h : W.ownsRow base 3 1 v ks.length (ks.map encZ)) : Kd.R (Kd.int .i64) 3 W base (fun _ => True) v ks := Kd.R_of_own h (fun _ _ => trivial)
theorem rowA_form {α : Type} {d : Kd α} {e : Nat} {W : World} {base : Nat} {ok : Nat → Prop} {v : Value} {xs : List α} {n : Nat} (hl : xs.length = n) (hp : 0 < n) (h : Kd.R d e W base ok v xs) : ∃ g c, v = .slice (some ⟨g, 0, none⟩) n c ∧ Kd.R d e W base ok (.slice (some ⟨g, 0, none⟩) n c) xs := by
  obtain ⟨g, c, rfl, _⟩ := Kd.R_form h (by omega)
  subst hl
  exact ⟨g, c, rfl, h⟩
set_option maxHeartbeats 4000000 in
set_option maxRecDepth 100000 in
theorem ranges_walk {W : World} {g mb : Nat} {n w nx : Int} {F : List (Int × Hd)} (h : IsRv W g mb n w nx F) (hb : RvB n w nx F) : Calls Try.prog 20 #[.pointer (some ⟨g, 0, none⟩)] W fun e W' => ∃ A N c, e = .returned (.slice A N c) ∧ (rgL (F.map Prod.fst) []).length = N ∧ Kd.R kr 48 W' W.heap.size (fun _ => True) (.slice A N c) (rgL (F.map Prod.fst) []) ∧ Below W.heap.size W W' := by
  have hg3 := blk_cell h.blk 3
  have H := Aside0.mk h
  have HBD := Aside0.mk hb
  clear h hb
  go_enter Try.func20, Try.ntmps20
  go_wp2
  go_step3
  go_wp2
  go_step3
  go_wp2_with fail
  refine (keys_walk (some mb) W).mono ?_
  rintro e w1 ⟨rfl, rfl⟩
  have HB1 := Aside0.mk (below_alloc (Below.refl _ W) (.cells #[.map (some mb)] 49))
  have HC1 := Aside0.mk (show (W.alloc (.cells #[.map (some mb)] 49)).cell? ⟨W.heap.size, 0, none⟩ = some (.map (some mb)) from blk_cell (heap_alloc_new W _) 0)
  have H1 := Aside0.mk (H.out.below HB1.out)
  obtain ⟨w1, hw1⟩ : ∃ w1, W.alloc (.cells #[.map (some mb)] 49) = w1 := ⟨_, rfl⟩
  have HZ1 := Aside0.mk (show W.heap.size < w1.heap.size from by rw [← hw1]; simp)
  rw [hw1] at HB1 HC1 H1 ⊢
  clear hw1 hg3
  go_wp2_with fail
  refine (sorted_walk w1 H1.out.mp HC1.out HZ1.out (by rw [size_Dt]; have := HBD.out.len; have := HBD.out.w2; omega)).mono ?_
  rintro e w2 ⟨v14, ss, rfl, hss, hrow, hb2⟩
  rw [keys_Dt] at hss
  have hks := merge_asc H.out.asc hss
  rw [hks] at hrow
  have hls : ss.length = (F.map Prod.fst).length := hss.length_eq
  rw [hls] at hrow
  have hR := rows_keys hrow
  obtain ⟨ks, hk⟩ : ∃ ks, F.map Prod.fst = ks := ⟨_, rfl⟩
  rw [hk] at hR
  have HKK := Aside0.mk hk
  obtain ⟨m, hm⟩ : ∃ m, ks.length = m := ⟨_, rfl⟩
  obtain ⟨A14, c14, rfl⟩ := Kd.R_slice hR
  rw [hm] at hR ⊢
  have HKS := Aside0.mk (show (∀ y ∈ ks, 0 ≤ y ∧ y < 1048577) ∧ m ≤ 64 from by
    refine ⟨fun y hy => ?_, ?_⟩
    · rw [← hk] at hy
      obtain ⟨x, hx, rfl⟩ := List.mem_map.1 hy
      have := HBD.out.lo x hx
      have := (HBD.out.hi x hx).1
      have := HBD.out.n0
      have := HBD.out.n2
      omega
    · rw [← hm, ← hk, List.length_map]
      have := HBD.out.len
      have := HBD.out.w2
      omega)
  have HM := Aside0.mk hm
  have HR := Aside0.mk hR
  have HB2 := Aside0.mk (show Below W.heap.size W w2 from below_then HB1.out HB1.out.size hb2)
  have hm64 := HKS.out.2
  clear hss hrow hks hls hb2 hk hm hR HC1 H1
  go_wp2
  go_loopw [3, 5, 6, 16] (fun v3 v5 v6 v16 wr => ∃ (t : Nat) (u5 u6 : Value) (os : List (Int × Int)), u5 = v5 ∧ u6 = v6 ∧ v16 = .int .i64 t ∧ t ≤ m ∧ Aside0 (Kd.R kr 48 wr w2.heap.size (fun _ => True) v3 os) ∧ Aside0 (rgL ks [] = rgL (ks.drop t) os) ∧ Aside0 (os.length ≤ 4) ∧ Aside0 (Below w2.heap.size w2 wr)) (fun _ _ _ v16 _ => m - (intOf v16).toNat)
  case atStart => exact ⟨0, _, _, [], rfl, rfl, rfl, Nat.zero_le _, ⟨Kd.R_nil _ _ _ _ _⟩, ⟨rfl⟩, ⟨by simp⟩, ⟨Below.refl _ _⟩⟩
  case round =>
    obtain ⟨t, u5, u6, os, rfl, rfl, rfl, ht, HO, HP, HL, HB⟩ := hrel
    obtain ⟨A3, c3, rfl⟩ := Kd.R_slice HO.out
    obtain ⟨q, hq⟩ : ∃ q, os.length = q := ⟨_, rfl⟩
    rw [hq] at HO ⊢
    have HQ := Aside0.mk hq
    have hq4 : q ≤ 4 := by rw [← hq]; exact HL.out
    have hwq : wrap64 ((q : Int) - 1) = (q : Int) - 1 := by unfold wrap64; omega
    clear hq
    obtain ⟨wo, rfl⟩ : ∃ wo : World, wo = wr := ⟨_, rfl⟩
    have HLAST := Aside0.mk (show rgL ks [] = rgL (ks.drop t) os from HP.out)
    by_cases hlt : t < m
    · obtain ⟨g14, c14', e14, _⟩ := rowA_form HM.out (by omega) HR.out
      injection e14 with e14 _ e15
      subst e14 e15
      obtain ⟨x, hx⟩ : ∃ x, ks.getD t 0 = x := ⟨_, rfl⟩
      have hkx := (Kd.R_elem (Kd.R_below HR.out HB.out) 0 (t : Int) (by omega) (by omega))
      obtain ⟨cs, _, hM, hcell, _⟩ := hkx
      obtain rfl : cs = [.int .i64 (ks.getD (t : Int).toNat 0)] := hM
      have hc14 := hcell 0 _ rfl
      have e1 : (Kd.int .i64).sz = 1 := rfl
      rw [e1] at hc14
      simp only [Int.toNat_natCast, Nat.mul_one, Nat.add_zero, hx] at hc14
      have hxm : x ∈ ks := by
        rw [← hx, List.getD_eq_getElem?_getD, List.getElem?_eq_getElem (by rw [HM.out]; exact hlt)]
        exact List.getElem_mem _
      have hx01 := HKS.out.1 x hxm
      have HDR := Aside0.mk (show ks.drop t = x :: ks.drop (t + 1) from by
        rw [List.drop_eq_getElem_cons (by rw [HM.out]; exact hlt), ← hx, List.getD_eq_getElem?_getD, List.getElem?_eq_getElem (by rw [HM.out]; exact hlt)]
        rfl)
      have hwx : wrap64 (x + 1) = x + 1 := by unfold wrap64; omega
      have ht0 : (0 : Int) ≤ (t : Int) := by omega
      have htm : (t : Int) < (m : Int) := by omega
      clear hcell e1 hxm hx HLAST
      by_cases hq0 : q = 0
      · subst hq0
        obtain rfl := List.length_eq_zero_iff.1 HQ.out
        have HLX := Aside0.mk (show (([] : List (Int × Int)).length + 1) * 16 ≤ 140737488355328 from by decide)
        have HLY := Aside0.mk (show ([] : List (Int × Int)).length + 1 ≤ 4 from by decide)
        have HP2 := Aside0.mk (show rgL ks [] = rgL (ks.drop (t + 1)) ([] ++ [(x, x + 1)]) from by rw [HP.out, HDR.out, rgL_cons, if_neg (by simp), if_neg (by simp)])
        go_wp2_with (at_builtin; go_loud (refine Kd.R_append kr (w0 := w2) w2.heap.size rfl (.tmp 45) (.tmp 50) 42 48 (.agg #[.int .i64 0, .int .i64 0]) 16 rfl Try.underlying42 info48_ rfl (by decide) (by decide) (.slice A3 0 c3) ([] : List (Int × Int)) (x, x + 1) [.int .i64 x, .int .i64 (x + 1)] (fun _ => True) (fun _ => False) rfl rfl (kr_mkM _ _ _ _) (fun _ h => h.elim) (fun _ _ => trivial) HO.out HB.out HB.out.size HLX.out ?_); intro v5 w5 hR5 hb5 hg5 hat5; clear hg5 hat5; have HR5 := Aside0.mk hR5; have HB5 := Aside0.mk hb5; clear hR5 hb5)
        go_roundw
        case rel => exact ⟨t + 1, _, _, ([] : List (Int × Int)) ++ [(x, x + 1)], rfl, rfl, by go_num, by omega, HR5, HP2, ⟨by rw [List.length_append, List.length_singleton]; exact HLY.out⟩, HB5⟩
        case measure => simp [intOf]; omega
      · obtain ⟨go, c3', e3, hRo⟩ := rowA_form HQ.out (by omega) HO.out
        injection e3 with e3 _ e4
        subst e3 e4
        have hq1q : q - 1 < q := by omega
        obtain ⟨_, hl2, hlf0⟩ := kr_at HO.out (q - 1) (by omega)
        obtain ⟨y, hy⟩ : ∃ y, (os.getD (q - 1) z2).2 = y := ⟨_, rfl⟩
        rw [hy] at hl2
        have HY := Aside0.mk hy
        have hqi : (q : Int) - 1 = ((q - 1 : Nat) : Int) := by omega
        have h0q : (0 : Int) ≤ (q : Int) - 1 := by omega
        have h1q : (q : Int) - 1 < (q : Int) := by omega
        clear hy hRo
        by_cases hyx : y = x
        · subst hyx
          have hby : (y == y) = true := beq_self_eq_true _
          go_wp2
          refine start_ (n := 9) (S := fun w' => w'.cell? ⟨go, (q - 1) * 2 + 1, none⟩ = some (.int .i64 y)) (ds := [8]) #[false, false, false, false, false, false, false, false, false] (by kernel_rfl) rfl rfl (hl2) (fun hHeld => ?_)
          obtain ⟨wd2, hwd2⟩ : ∃ wd2, wo.drew = wd2 := ⟨_, rfl⟩
          rw [hwd2] at hHeld ⊢
          have hfz : wd2.frozen? ⟨go, (q - 1) * 2 + 1, none⟩ = false := by rw [← hwd2]; exact hlf0 1
          refine pure_ (i := 0) (N := some 34) (v := ?_) (a' := ?_) #[true, false, false, false, false, false, false, false, false] rfl rfl (by kernel_rfl) (fun _ _ _ h => h) (Or.inl ⟨by rfl, ?_⟩) ?_ ?_
          rotate_left
          · intro w'
            go_simp
            with_reducible rfl
          rotate_left
          · simp only [Act.put, List.setIfInBounds_toArray, List.set_cons_zero, List.set_cons_succ, i64_w, i32_w]
            rfl
          refine pure_ (i := 1) (N := some 35) (v := ?_) (a' := ?_) #[true, true, false, false, false, false, false, false, false] rfl rfl (by kernel_rfl) (fun _ _ _ h => h) (Or.inl ⟨by rfl, ?_⟩) ?_ ?_
          rotate_left
          · intro w'
            go_simp
            with_reducible rfl
          rotate_left
          · simp only [Act.put, List.setIfInBounds_toArray, List.set_cons_zero, List.set_cons_succ, i64_w, i32_w]
            rfl
          refine pure_ (i := 2) (N := some 36) (v := ?_) (a' := ?_) #[true, true, true, false, false, false, false, false, false] rfl rfl (by kernel_rfl) (fun _ _ _ h => h) (Or.inl ⟨by rfl, ?_⟩) ?_ ?_
          rotate_left
          · intro w'
            go_simp
            with_reducible rfl
          rotate_left
          · simp only [Act.put, List.setIfInBounds_toArray, List.set_cons_zero, List.set_cons_succ, i64_w, i32_w]
            rfl
          refine pure_ (i := 3) (N := some 37) (v := ?_) (a' := ?_) #[true, true, true, true, false, false, false, false, false] rfl rfl (by kernel_rfl) (fun _ _ _ h => h) (Or.inl ⟨by rfl, ?_⟩) ?_ ?_
          rotate_left
          · intro w'
            go_simp
            with_reducible rfl
          rotate_left
          · simp only [Act.put, List.setIfInBounds_toArray, List.set_cons_zero, List.set_cons_succ, i64_w, i32_w]
            rfl
          refine take_ (i := 4) (N := some 38) (v := ?_) (a' := ?_) #[true, true, true, true, true, false, false, false, false] rfl rfl (by kernel_rfl) (fun _ _ _ h => h) (Or.inl ⟨by rfl, ?_⟩) hHeld ?_ ?_
          rotate_left
          · rintro w' s0
            go_simp
            with_reducible rfl
          rotate_left
          · simp only [Act.put, List.setIfInBounds_toArray, List.set_cons_zero, List.set_cons_succ, i64_w, i32_w]
            rfl
          refine pure_ (i := 5) (N := some 39) (v := ?_) (a' := ?_) #[true, true, true, true, true, true, false, false, false] rfl rfl (by kernel_rfl) (fun _ _ _ h => h) (Or.inl ⟨by rfl, ?_⟩) ?_ ?_
          rotate_left
          · intro w'
            go_simp
            with_reducible rfl
          rotate_left
          · simp only [Act.put, List.setIfInBounds_toArray, List.set_cons_zero, List.set_cons_succ, i64_w, i32_w]
            rfl
          refine pure_ (i := 6) (N := some 40) (v := ?_) (a' := ?_) #[true, true, true, true, true, true, true, false, false] rfl rfl (by kernel_rfl) (fun _ _ _ h => h) (Or.inl ⟨by rfl, ?_⟩) ?_ ?_
          rotate_left
          · intro w'
            go_simp
            with_reducible rfl
          rotate_left
          · simp only [Act.put, List.setIfInBounds_toArray, List.set_cons_zero, List.set_cons_succ, i64_w, i32_w]
            rfl
          refine pure_ (i := 7) (N := some 41) (v := ?_) (a' := ?_) #[true, true, true, true, true, true, true, true, false] rfl rfl (by kernel_rfl) (fun _ _ _ h => h) (Or.inl ⟨by rfl, ?_⟩) ?_ ?_
          rotate_left
          · intro w'
            go_simp
            with_reducible rfl
          rotate_left
          · simp only [Act.put, List.setIfInBounds_toArray, List.set_cons_zero, List.set_cons_succ, i64_w, i32_w]
            rfl
          refine last_ (i := 8) (N := none) #[true, true, true, true, true, true, true, true, true] rfl rfl (by kernel_rfl) (by decide) (fun K hK => ?_)
          refine skip_ (w1 := ?_) (by rfl) rfl ?_ ?_
          rotate_left
          · go_simp
            rfl
          refine hK.out _ _ ?_
          clear hK K
          refine done_ (by kernel_rfl) ?_
          have HR5 := Aside0.mk (show Kd.R kr 48 (wd2.setCell ⟨go, (q - 1) * 2 + 1, none⟩ (.int .i64 (y + 1))) w2.heap.size (fun _ => True) (.slice (some ⟨go, 0, none⟩) q c3) (os.set (q - 1) ((os.getD (q - 1) z2).1, y + 1)) from kr_set (by rw [← hwd2]; exact Kd.R_drew HO.out) (q - 1) (by omega) (y + 1))
          have HB5 := Aside0.mk (show Below w2.heap.size w2 (wd2.setCell ⟨go, (q - 1) * 2 + 1, none⟩ (.int .i64 (y + 1))) from (by rw [← hwd2]; exact below_drew HB.out : Below w2.heap.size w2 wd2).setCell (p := ⟨go, (q - 1) * 2 + 1, none⟩) (Kd.R_base HO.out go rfl) _)
          have HP2 := Aside0.mk (show rgL ks [] = rgL (ks.drop (t + 1)) (os.set (q - 1) ((os.getD (q - 1) z2).1, y + 1)) from by
            rw [HP.out, HDR.out, rgL_cons, HQ.out, if_pos ⟨by omega, HY.out⟩])
          clear hHeld hfz hlf0 hl2
          go_wp2
          go_roundw
          case rel => exact ⟨t + 1, _, _, os.set (q - 1) ((os.getD (q - 1) z2).1, y + 1), rfl, rfl, by go_num, by omega, HR5, HP2, ⟨by rw [List.length_set]; exact HL.out⟩, HB5⟩
          case measure => simp [intOf]; omega
        · have hb1 : (y == x) = false := beq_eq_false_iff_ne.2 hyx
          by_cases hq44 : q = 4
          · subst hq44
            have HP2 := Aside0.mk (show rgL ks [] = os from by rw [HP.out, HDR.out, rgL_cons, HQ.out, if_neg (fun h => hyx (HY.out ▸ h.2)), if_pos rfl])
            go_wp2
            try rw [Exit.noGoto_ret]
            go_ret
            refine ⟨_, _, _, rfl, ?_, ?_, below_then HB2.out HB2.out.size HB.out⟩
            · rw [HKK.out, HP2.out]; exact HQ.out
            · rw [HKK.out, HP2.out]; exact Kd.R_lower HO.out HB2.out.size
          · have hb4 : ((q : Int) == 4) = false := beq_eq_false_iff_ne.2 (by omega)
            have HLX := Aside0.mk (show (os.length + 1) * 16 ≤ 140737488355328 from by rw [HQ.out]; omega)
            have HLY := Aside0.mk (show os.length + 1 ≤ 4 from by rw [HQ.out]; omega)
            have HP2 := Aside0.mk (show rgL ks [] = rgL (ks.drop (t + 1)) (os ++ [(x, x + 1)]) from by rw [HP.out, HDR.out, rgL_cons, HQ.out, if_neg (fun h => hyx (HY.out ▸ h.2)), if_neg hq44])
            go_wp2_with (at_builtin; go_loud (refine Kd.R_append kr (w0 := w2) w2.heap.size rfl (.tmp 45) (.tmp 50) 42 48 (.agg #[.int .i64 0, .int .i64 0]) 16 rfl Try.underlying42 info48_ rfl (by decide) (by decide) (.slice (some ⟨go, 0, none⟩) q c3) os (x, x + 1) [.int .i64 x, .int .i64 (x + 1)] (fun _ => True) (fun _ => False) rfl rfl (kr_mkM _ _ _ _) (fun _ h => h.elim) (fun _ _ => trivial) HO.out HB.out HB.out.size HLX.out ?_); intro v5 w5 hR5 hb5 hg5 hat5; clear hg5 hat5; have HR5 := Aside0.mk hR5; have HB5 := Aside0.mk hb5; clear hR5 hb5)
            go_roundw
            case rel => exact ⟨t + 1, _, _, os ++ [(x, x + 1)], rfl, rfl, by go_num, by omega, HR5, HP2, ⟨by rw [List.length_append, List.length_singleton]; exact HLY.out⟩, HB5⟩
            case measure => simp [intOf]; omega
    · obtain rfl : t = m := by omega
      have HP2 := Aside0.mk (show rgL ks [] = os from by rw [HP.out, List.drop_eq_nil_of_le (by rw [HM.out]; exact Nat.le_refl _)]; rfl)
      go_wp2
      try rw [Exit.noGoto_ret]
      go_ret
      refine ⟨_, _, _, rfl, ?_, ?_, below_then HB2.out HB2.out.size HB.out⟩
      · rw [HKK.out, HP2.out]; exact HQ.out
      · rw [HKK.out, HP2.out]; exact Kd.R_lower HO.out HB2.out.size
end Go.Proofs.Ythkiedkifhloeaa.Lib
