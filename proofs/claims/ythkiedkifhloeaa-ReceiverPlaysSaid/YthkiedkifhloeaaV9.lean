/- receiver: items; few: walked by hand. -/
import Derived.Test.YthkiedkifhloeaaV8
namespace Go.Proofs.Ythkiedkifhloeaa.Lib
open Go.RowKit Go.Proofs.YthkiedkifhloeaaW.PrintWords Go.Proofs.YthkiedkifhloeaaW.PrintLast Go.Proofs.YthkiedkifhloeaaW.PrintMore
set_option linter.unusedVariables false
set_option linter.unusedSimpArgs false
abbrev It := Int × List Int
def zi : It := (0, [])
def k38 : Kd It := Kd.pair (Kd.int .i64) (Kd.slice 5 (Kd.int .u8))
theorem it_at {w W : World} {A0 : Option Addr} {n : Nat} {items : List It} (h : Kd.C k38 w A0 n items) (hb : Below w.heap.size w W) (t : Nat) (ht : t < n) :
    ∃ ad A1 c1, A0 = some ad ∧ W.cell? (ad.add (t * 2)) = some (.int .i64 (items.getD t zi).1) ∧ W.cell? ⟨(ad.add (t * 2)).block, (ad.add (t * 2)).off + 1, none⟩ = some (.slice A1 (items.getD t zi).2.length c1) ∧ (items.getD t zi).2.length ≤ c1 ∧ Kd.C (Kd.int .u8) w A1 (items.getD t zi).2.length (items.getD t zi).2 := by
  obtain ⟨ad, c, e, _, hK, hc⟩ := Kd.C_get h zi (t : Int) (by omega) (by omega)
  simp only [Int.toNat_natCast] at hK hc
  have e1 : k38.sz = 2 := rfl
  rw [e1] at hc
  obtain ⟨_, _, rfl, rfl, ⟨A1, c1, rfl, hl, hC⟩⟩ := hK
  exact ⟨ad, A1, c1, e, pw_cell_below hb (by simpa using hc 0 _ rfl), pw_cell_below hb (by rw [← add_field _ _ 1 (by omega)]; exact hc 1 _ rfl), hl, hC⟩
/-- not too many -/
def sumI (items : List It) : Nat := (items.map fun x => x.2.length).sum
theorem sumI_snoc (items : List It) (t : Nat) (h : t < items.length) : sumI (items.take (t + 1)) = sumI (items.take t) + (items.getD t zi).2.length := by
  unfold sumI
  rw [List.take_succ_eq_append_getElem h, List.map_append, List.sum_append, List.getD_eq_getElem?_getD, List.getElem?_eq_getElem h]
  simp
theorem sumI_mem : ∀ (items : List It) (x : It), x ∈ items → x.2.length ≤ sumI items
  | y :: L, x, h => by
    have e : sumI (y :: L) = y.2.length + sumI L := by simp [sumI]
    rw [e]
    rcases List.mem_cons.1 h with rfl | h
    · omega
    · have := sumI_mem L x h
      omega
structure FewI (items : List It) : Prop where
  n : items.length ≤ 301
  s : sumI items ≤ 3000
set_option maxHeartbeats 2000000 in
set_option maxRecDepth 100000 in
theorem few_walk (A0 : Option Addr) (n c0 : Nat) (items : List It) (w W : World) (hn : items.length = n) (hC : Kd.C k38 w A0 n items) (hb : Below w.heap.size w W) (hl : ∀ x ∈ items, x.2.length ≤ 140737488351232) (hn9 : n ≤ 5000000000000) : Calls Try.prog 12 #[.slice A0 n c0] W fun e W' => ∃ b, e = .returned (.bool b) ∧ (b = true → FewI items) ∧ Below W.heap.size W W' := by
  have HC := Aside0.mk hC
  have HN := Aside0.mk hn
  have HL := Aside0.mk hl
  have HB := Aside0.mk hb
  clear hC hn hl hb
  go_enter Try.func12, Try.ntmps12
  go_wp2
  go_loopw [3, 4, 5, 8] (fun v3 v4 v5 v8 wr => ∃ (t : Nat) (u4 u5 : Value), u4 = v4 ∧ u5 = v5 ∧ v8 = .int .i64 t ∧ t ≤ n ∧ v3 = .int .i64 (sumI (items.take t) : Nat) ∧ Aside0 (sumI (items.take t) ≤ 3000 ∧ t ≤ 301) ∧ Aside0 (Below W.heap.size W wr)) (fun _ _ _ v8 _ => n - (intOf v8).toNat)
  case atStart => exact ⟨0, _, _, rfl, rfl, rfl, Nat.zero_le _, rfl, ⟨by simp [sumI]⟩, ⟨Below.refl _ _⟩⟩
  case round =>
    obtain ⟨t, u4, u5, rfl, rfl, rfl, ht, rfl, HT, HBX⟩ := hrel
    obtain ⟨wo, rfl⟩ : ∃ wo : World, wo = wr := ⟨_, rfl⟩
    obtain ⟨q, hq⟩ : ∃ q, sumI (items.take t) = q := ⟨_, rfl⟩
    have HQ := Aside0.mk hq
    have HT1 := HT.out
    rw [hq] at HT1 ⊢
    clear hq
    by_cases hlt : t < n
    · obtain ⟨ad, A1, c1, rfl, hx0, hx1, h2, _⟩ := it_at HC.out (below_then HB.out HB.out.size HBX.out) t hlt
      have hm7 : (items.getD t zi).2.length ≤ 140737488351232 := HL.out _ (by rw [List.getD_eq_getElem?_getD, List.getElem?_eq_getElem (by rw [HN.out]; exact hlt)]; simp)
      obtain ⟨⟨x, d⟩, hx⟩ : ∃ v, items.getD t zi = v := ⟨_, rfl⟩
      rw [hx] at hx0 hx1 h2 hm7
      simp only at hx0 hx1 h2 hm7
      obtain ⟨m, hm⟩ : ∃ m, d.length = m := ⟨_, rfl⟩
      rw [hm] at hx1 h2 hm7
      have HX := Aside0.mk (show sumI (items.take (t + 1)) = q + m from by rw [sumI_snoc items t (by rw [HN.out]; exact hlt), HQ.out, hx, ← hm])
      clear hx hm h2
      have ht0 : (0 : Int) ≤ (t : Int) := by omega
      have htn : (t : Int) < (n : Int) := by omega
      by_cases hbig : 3000 < q + m
      · have hd1 : decide (3000 < (q : Int) + (m : Int)) = true := decide_eq_true (by omega)
        go_wp2
        go_ret
        exact ⟨false, rfl, (fun h => by cases h), by (first | exact below_alloc HBX.out _ | exact pw_below_drewN (below_alloc HBX.out _) _)⟩
      · have hd1 : decide (3000 < (q : Int) + (m : Int)) = false := decide_eq_false (by omega)
        by_cases h100 : 300 < t
        · have hd2 : decide (300 < (t : Int)) = true := decide_eq_true (by omega)
          go_wp2
          go_ret
          exact ⟨false, rfl, (fun h => by cases h), by (first | exact below_alloc HBX.out _ | exact pw_below_drewN (below_alloc HBX.out _) _)⟩
        · have hd2 : decide (300 < (t : Int)) = false := decide_eq_false (by omega)
          go_wp2
          go_roundw
          case rel => exact ⟨t + 1, _, _, rfl, rfl, by go_num, by omega, by rw [HX.out]; push_cast; rfl, ⟨by rw [HX.out]; omega⟩, ⟨by (first | exact below_alloc HBX.out _ | exact pw_below_drewN (below_alloc HBX.out _) _)⟩⟩
          case measure => simp [intOf]; omega
    · obtain rfl : n = t := by omega
      go_wp2
      go_ret
      exact ⟨true, rfl, fun _ => ⟨by rw [HN.out]; exact HT.out.2, by have h := HT.out.1; rw [List.take_of_length_le (by rw [HN.out]; exact Nat.le_refl _)] at h; exact h⟩, HBX.out⟩
end Go.Proofs.Ythkiedkifhloeaa.Lib
