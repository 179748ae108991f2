/- receiver: SameRanges, SameParts: walked by hand. -/
import Derived.Test.YthkiedkifhloeaaV4
import Derived.ChangeKeysEq
namespace Go.Proofs.Ythkiedkifhloeaa.Lib
open Go.RowKit Go.Proofs.YthkiedkifhloeaaW.PrintWords Go.Proofs.YthkiedkifhloeaaW.PrintLast Go.Proofs.YthkiedkifhloeaaW.PrintMore
attribute [local go_sem] max2_int min2_int max_two min_two max_three min_three max_four min_four
set_option linter.unusedVariables false
set_option linter.unusedSimpArgs false
def Bytes (l : List Int) : Prop := ∀ x ∈ l, 0 ≤ x ∧ x ≤ 255
theorem toNats_inj : ∀ {a b : List Int}, Bytes a → Bytes b → a.map (fun x => UInt8.ofNat x.toNat) = b.map (fun x => UInt8.ofNat x.toNat) → a = b
  | [], [], _, _, _ => rfl
  | [], y :: b, _, _, h => by simp at h
  | x :: a, [], _, _, h => by simp at h
  | x :: a, y :: b, ha, hb, h => by
    have hx := ha x List.mem_cons_self
    have hy := hb y List.mem_cons_self
    simp only [List.map_cons, List.cons.injEq] at h
    have e : x.toNat = y.toNat := by
      have := congrArg UInt8.toNat h.1
      simp only [UInt8.toNat_ofNat'] at this
      omega
    rw [toNats_inj (fun z hz => ha z (List.mem_cons_of_mem _ hz)) (fun z hz => hb z (List.mem_cons_of_mem _ hz)) h.2, show x = y by omega]
theorem str_eq {a b : List Int} (ha : Bytes a) (hb : Bytes b) : ((strOfNums a).toList == (strOfNums b).toList) = decide (a = b) := by
  rw [Bool.eq_iff_iff, beq_iff_eq, decide_eq_true_iff]
  rw [ByteArray.toList_eq, ByteArray.toList_eq]
  exact ⟨fun h => toNats_inj ha hb h, fun h => by rw [h]⟩
theorem kr_C {W : World} {A : Option Addr} {n : Nat} {xs : List (Int × Int)} (h : Kd.C kr W A n xs) (i : Nat) (hi : i < n) :
    ∃ ad, A = some ad ∧ W.cell? (ad.add (i * 2)) = some (.int .i64 (xs.getD i z2).1) ∧ W.cell? ⟨(ad.add (i * 2)).block, (ad.add (i * 2)).off + 1, none⟩ = some (.int .i64 (xs.getD i z2).2) := by
  obtain ⟨ad, c, e, _, hK, hc⟩ := Kd.C_get h z2 (i : Int) (by omega) (by omega)
  obtain rfl := kr_open hK
  have e1 : kr.sz = 2 := rfl
  rw [e1] at hc
  simp only [Int.toNat_natCast] at hc
  exact ⟨ad, e, by simpa using hc 0 _ rfl, by rw [← add_field _ _ 1 (by omega)]; exact hc 1 _ rfl⟩
theorem take_snoc {α : Type} [Inhabited α] {z : α} {xs ys : List α} {n t : Nat} (hx : xs.length = n) (hy : ys.length = n) (ht : t < n) (h : xs.take t = ys.take t) (he : xs.getD t z = ys.getD t z) : xs.take (t + 1) = ys.take (t + 1) := by
  rw [List.take_succ_eq_append_getElem (by omega), List.take_succ_eq_append_getElem (by omega), h]
  rw [List.getD_eq_getElem?_getD, List.getElem?_eq_getElem (by omega), List.getD_eq_getElem?_getD, List.getElem?_eq_getElem (by omega)] at he
  simp only [Option.getD_some] at he
  rw [he]
theorem info3 : (Try.prog.info? 3).map (fun i => (i.zero, i.size, i.bytes)) = some (some (.int .i64 0), 1, 8) := by kernel_rfl
theorem eqA48 (d : Nat) (w : World) (x0 y0 x1 y1 : Int) : (Op.equalIn (d + 2) 48 (.agg #[.int .i64 x0, .int .i64 x1]) (.agg #[.int .i64 y0, .int .i64 y1])).run Try.prog w = .ok (x0 == y0 && x1 == y1) w := by
  obtain ⟨i3, hi3, hz3⟩ := Option.map_eq_some_iff.1 info3
  rw [run_equalIn_array w (d + 1) _ _ Try.underlying48 hi3]
  have e1 : Try.prog.cellsOf 3 = 1 := by kernel_rfl
  have e2 : List.range 2 = [0, 1] := rfl
  rw [e1, e2]
  simp only [Op.eqItems]
  go_simp
  by_cases h0 : x0 = y0
  · by_cases h1 : x1 = y1
    · simp [h0, h1]
    · simp [h0, h1]
  · simp [h0]
attribute [local go_sem high] eqA48
set_option maxHeartbeats 2000000 in
set_option maxRecDepth 100000 in
theorem sameR_walk (A B : Option Addr) (n m c d : Nat) (xs ys : List (Int × Int)) (w : World) (hx : xs.length = n) (hy : ys.length = m) (hA : Kd.C kr w A n xs) (hB : Kd.C kr w B m ys) (hn : n ≤ 1000000) : Calls Try.prog 19 #[.slice A n c, .slice B m d] w fun e w' => e = .returned (.bool (decide (xs = ys))) ∧ Drawn0 w w' := by
  have HA := Aside0.mk hA
  have HB := Aside0.mk hB
  have HX := Aside0.mk hx
  have HY := Aside0.mk hy
  clear hA hB hx hy
  by_cases hnm : n = m
  · subst hnm
    have hbn : ((n : Int) == (n : Int)) = true := beq_self_eq_true _
    have hbn2 : ((n : Int) != (n : Int)) = false := by simp
    go_enter Try.func19, Try.ntmps19
    go_wp2
    go_loopw [5, 13] (fun v5 i wr => ∃ (t q : Nat) (u : Value), u = v5 ∧ i = .int .i64 t ∧ t ≤ n ∧ Aside0 (xs.take t = ys.take t) ∧ wr = w.drewN q) (fun _ i _ => n - (intOf i).toNat)
    case atStart => exact ⟨0, 0, _, rfl, rfl, Nat.zero_le _, ⟨rfl⟩, rfl⟩
    case round =>
      obtain ⟨t, q, u, rfl, rfl, ht, HP, rfl⟩ := hrel
      by_cases hlt : t < n
      · obtain ⟨ad, rfl, a0, a1⟩ := kr_C (Kd.C_drewN HA.out q) t hlt
        obtain ⟨bd, rfl, b0, b1⟩ := kr_C (Kd.C_drewN HB.out q) t hlt
        obtain ⟨⟨x1, x2⟩, hx⟩ : ∃ v, xs.getD t z2 = v := ⟨_, rfl⟩
        obtain ⟨⟨y1, y2⟩, hy⟩ : ∃ v, ys.getD t z2 = v := ⟨_, rfl⟩
        rw [hx] at a0 a1
        rw [hy] at b0 b1
        simp only at a0 a1 b0 b1
        have HXT := Aside0.mk hx
        have HYT := Aside0.mk hy
        have h0 : (0 : Int) ≤ (t : Int) := by omega
        have h1 : (t : Int) < (n : Int) := by omega
        obtain ⟨W, hW⟩ : ∃ W, w.drewN q = W := ⟨_, rfl⟩
        rw [hW] at a0 a1 b0 b1 ⊢
        have HW := Aside0.mk hW
        clear hW hx hy
        go_wp2
        go_quiet (fail)
        by_cases he : x1 = y1 ∧ x2 = y2
        · obtain ⟨rfl, rfl⟩ := he
          rw [show (!x1 == x1 || !x2 == x2) = false from by simp]
          go_wp2
          go_roundw
          case rel => exact ⟨t + 1, q + nq, _, rfl, by go_num, by omega, ⟨take_snoc HX.out HY.out hlt HP.out (HXT.out.trans HYT.out.symm)⟩, by rw [← HW.out, World.drewN_drewN]⟩
          case measure => simp [intOf]; omega
        · rw [show (!x1 == y1 || !x2 == y2) = true from by
            simp
            by_cases h1 : x1 = y1
            · exact .inr (fun h2 => he ⟨h1, h2⟩)
            · exact .inl h1]
          have hne : xs ≠ ys := fun e => he (by
            have h := HXT.out
            rw [e, HYT.out] at h
            injection h with h1 h2
            exact ⟨h1.symm, h2.symm⟩)
          go_wp2
          go_ret
          exact ⟨by rw [decide_eq_false hne]; rfl, q + nq, by rw [← HW.out, World.drewN_drewN]⟩
      · obtain rfl : t = n := by omega
        have hq : xs = ys := by
          have h := HP.out
          rw [List.take_of_length_le (by rw [HX.out]; exact Nat.le_refl _), List.take_of_length_le (by rw [HY.out]; exact Nat.le_refl _)] at h
          exact h
        go_wp2
        go_ret
        exact ⟨by rw [decide_eq_true hq]; rfl, q, rfl⟩
  · have hbn : ((n : Int) == (m : Int)) = false := beq_eq_false_iff_ne.2 (by omega)
    have hbn2 : ((n : Int) != (m : Int)) = true := bne_iff_ne.2 (by omega)
    go_enter Try.func19, Try.ntmps19
    go_wp2
    go_ret
    exact ⟨by rw [decide_eq_false (fun h => hnm (by rw [← HX.out, ← HY.out, h]))]; rfl, 0, rfl⟩
set_option maxHeartbeats 2000000 in
set_option maxRecDepth 100000 in
theorem parts_walk (A B : Option Addr) (n m c d : Nat) (xs ys : List (List Int)) (w : World) (hx : xs.length = n) (hy : ys.length = m) (hA : Kd.C (Kd.slice 5 (Kd.int .u8)) w A n xs) (hB : Kd.C (Kd.slice 5 (Kd.int .u8)) w B m ys) (hn : n ≤ 1000000) (hbx : ∀ l ∈ xs, Bytes l) (hby : ∀ l ∈ ys, Bytes l) : Calls Try.prog 14 #[.slice A n c, .slice B m d] w fun e w' => e = .returned (.bool (decide (xs = ys))) ∧ Drawn0 w w' := by
  have HA := Aside0.mk hA
  have HB := Aside0.mk hB
  have HX := Aside0.mk hx
  have HY := Aside0.mk hy
  have HBX := Aside0.mk hbx
  have HBY := Aside0.mk hby
  clear hA hB hx hy hbx hby
  by_cases hnm : n = m
  · subst hnm
    have hbn : ((n : Int) == (n : Int)) = true := beq_self_eq_true _
    have hbn2 : ((n : Int) != (n : Int)) = false := by simp
    go_enter Try.func14, Try.ntmps14
    go_wp2
    go_loopw [5, 13] (fun v5 i wr => ∃ (t q : Nat) (u : Value), u = v5 ∧ i = .int .i64 t ∧ t ≤ n ∧ Aside0 (xs.take t = ys.take t) ∧ wr = w.drewN q) (fun _ i _ => n - (intOf i).toNat)
    case atStart => exact ⟨0, 0, _, rfl, rfl, Nat.zero_le _, ⟨rfl⟩, rfl⟩
    case round =>
      obtain ⟨t, q, u, rfl, rfl, ht, HP, rfl⟩ := hrel
      by_cases hlt : t < n
      · obtain ⟨ad, A0, c0, rfl, a0, _, a2⟩ := at_L1 (Kd.C_drewN HA.out q) (t : Int) (by omega) (by omega)
        obtain ⟨bd, B0, d0, rfl, b0, _, b2⟩ := at_L1 (Kd.C_drewN HB.out q) (t : Int) (by omega) (by omega)
        obtain ⟨x, hx⟩ : ∃ v, xs.getD t [] = v := ⟨_, rfl⟩
        obtain ⟨y, hy⟩ : ∃ v, ys.getD t [] = v := ⟨_, rfl⟩
        have ex : rd_L1 xs (t : Int) = x := hx
        have ey : rd_L1 ys (t : Int) = y := hy
        rw [ex] at a0 a2
        rw [ey] at b0 b2
        simp only [Int.toNat_natCast] at a0 b0
        have hbx : Bytes x := HBX.out x (by rw [← hx, List.getD_eq_getElem?_getD, List.getElem?_eq_getElem (by rw [HX.out]; exact hlt)]; exact List.getElem_mem _)
        have hby : Bytes y := HBY.out y (by rw [← hy, List.getD_eq_getElem?_getD, List.getElem?_eq_getElem (by rw [HY.out]; exact hlt)]; exact List.getElem_mem _)
        have HXT := Aside0.mk hx
        have HYT := Aside0.mk hy
        have HS := Aside0.mk (str_eq hbx hby)
        have h0 : (0 : Int) ≤ (t : Int) := by omega
        have h1 : (t : Int) < (n : Int) := by omega
        obtain ⟨W, hW⟩ : ∃ W, w.drewN q = W := ⟨_, rfl⟩
        rw [hW] at a0 a2 b0 b2 ⊢
        have HW := Aside0.mk hW
        have hca : ∀ j, (convert 22 9 (.slice A0 x.length c0)).run Try.prog (W.drewN j) = .ok (.string (strOfNums x)) (W.drewN j) := fun j => Kd.C_string (P := Try.prog) (A := A0) (c := c0) Try.underlying22 Try.underlying5 Try.underlying9 (Kd.C_drewN a2 j)
        have hcb : ∀ j, (convert 22 9 (.slice B0 y.length d0)).run Try.prog (W.drewN j) = .ok (.string (strOfNums y)) (W.drewN j) := fun j => Kd.C_string (P := Try.prog) (A := B0) (c := d0) Try.underlying22 Try.underlying5 Try.underlying9 (Kd.C_drewN b2 j)
        obtain ⟨nx, hnx⟩ : ∃ nx, x.length = nx := ⟨_, rfl⟩
        obtain ⟨ny, hny⟩ : ∃ ny, y.length = ny := ⟨_, rfl⟩
        obtain ⟨sx, hsx⟩ : ∃ sx, strOfNums x = sx := ⟨_, rfl⟩
        obtain ⟨sy, hsy⟩ : ∃ sy, strOfNums y = sy := ⟨_, rfl⟩
        rw [hnx] at a0 hca
        rw [hny] at b0 hcb
        rw [hsx] at hca HS
        rw [hsy] at hcb HS
        clear hW hx hy ex ey a2 b2 hbx hby hnx hny hsx hsy
        go_wp2
        go_quiet (fail)
        have hval : (!sx.toList == sy.toList) = !decide (x = y) := by rw [HS.out]
        rw [hval]
        by_cases he : x = y
        · rw [decide_eq_true he]
          clear hval
          go_wp2
          go_roundw
          case rel => exact ⟨t + 1, q + nq, _, rfl, by go_num, by omega, ⟨take_snoc (z := []) HX.out HY.out hlt HP.out (by rw [HXT.out, HYT.out, he])⟩, by rw [← HW.out, World.drewN_drewN]⟩
          case measure => simp [intOf]; omega
        · rw [decide_eq_false he]
          have hne : xs ≠ ys := fun e => he (by rw [← HXT.out, ← HYT.out, e])
          clear hval
          go_wp2
          go_ret
          exact ⟨by rw [decide_eq_false hne]; rfl, q + nq, by rw [← HW.out, World.drewN_drewN]⟩
      · obtain rfl : t = n := by omega
        have hq : xs = ys := by
          have h := HP.out
          rw [List.take_of_length_le (by rw [HX.out]; exact Nat.le_refl _), List.take_of_length_le (by rw [HY.out]; exact Nat.le_refl _)] at h
          exact h
        go_wp2
        go_ret
        exact ⟨by rw [decide_eq_true hq]; rfl, q, rfl⟩
  · have hbn : ((n : Int) == (m : Int)) = false := beq_eq_false_iff_ne.2 (by omega)
    have hbn2 : ((n : Int) != (m : Int)) = true := bne_iff_ne.2 (by omega)
    go_enter Try.func14, Try.ntmps14
    go_wp2
    go_ret
    exact ⟨by rw [decide_eq_false (fun h => hnm (by rw [← HX.out, ← HY.out, h]))]; rfl, 0, rfl⟩
end Go.Proofs.Ythkiedkifhloeaa.Lib
