/- acts; few: walked by hand. -/
import Derived.Test.YtfmggodmhklfoaaA2
namespace Go.Proofs.Ytfmggodmhklfoaa.Lib
open Go.RowKit Go.Shelf Go.Proofs.YtfmggodmhklfoaaW.PrintWords Go.Proofs.YtfmggodmhklfoaaW.PrintLast Go.Proofs.YtfmggodmhklfoaaW.PrintMore
set_option linter.unusedVariables false
set_option linter.unusedSimpArgs false
/-- an act: is it an ack; Next; Ranges -/
abbrev Actd := Bool × Int × List (Int × Int)
def z34 : Actd := (false, 0, [])
def k34 : Kd Actd := Kd.pair Kd.bool (Kd.pair (Kd.int .i64) (Kd.slice 52 k52))
/-- what is known of an act that came in -/
def ActOk (x : Actd) : Prop := -9223372036854775808 ≤ x.2.1 ∧ x.2.1 ≤ 9223372036854775807 ∧ x.2.2.length ≤ 9223372036854775807 ∧ x.2.2.length ≤ 8796093022208 ∧ ∀ r ∈ x.2.2, -9223372036854775808 ≤ r.1 ∧ r.1 ≤ 9223372036854775807
theorem k34_at {w : World} {A : Option Addr} {n : Nat} {xs : List Actd} (h : Kd.C k34 w A n xs) (i : Nat) (hi : i < n) : ∃ ad Ar cr, A = some ad ∧ w.cell? (ad.add (i * 3)) = some (.bool (xs.getD i z34).1) ∧ w.cell? ⟨(ad.add (i * 3)).block, (ad.add (i * 3)).off + 1, none⟩ = some (.int .i64 (xs.getD i z34).2.1) ∧
    w.cell? ⟨(ad.add (i * 3)).block, (ad.add (i * 3)).off + 2, none⟩ = some (.slice Ar (xs.getD i z34).2.2.length cr) ∧ (xs.getD i z34).2.2.length ≤ cr ∧ Kd.C k52 w Ar (xs.getD i z34).2.2.length (xs.getD i z34).2.2 := by
  obtain ⟨ad, c, e, _, hK, hc0⟩ := Kd.C_get h z34 (i : Int) (by omega) (by omega)
  simp only [Int.toNat_natCast] at hK hc0
  have hc : ∀ j u, c[j]? = some u → w.cell? (ad.add (i * 3 + j)) = some u := hc0
  obtain ⟨c0, c1, rfl, h0, c2, c3, rfl, h1, Ar, cr, rfl, hl, hC⟩ := hK
  obtain rfl : c0 = _ := h0
  obtain rfl : c2 = _ := h1
  exact ⟨ad, Ar, cr, e, hc 0 _ rfl, by rw [← add_field _ _ 1 (by omega)]; exact hc 1 _ rfl, by rw [← add_field _ _ 2 (by omega)]; exact hc 2 _ rfl, hl, hC⟩
/-- what few answers -/
def FewPost (n : Nat) (w0 : World) (e : Ending) (w' : World) : Prop := ∃ b, e = .returned (.bool b) ∧ (b = true → n ≤ 201) ∧ Below w0.heap.size w0 w'
set_option maxRecDepth 100000 in
set_option maxHeartbeats 1000000 in
theorem few_walk (A0 : Option Addr) (c0 : Nat) (xs : List Actd) (w0 w : World) (hr : Kd.C k34 w0 A0 xs.length xs) (hw : Below w0.heap.size w0 w) (hok : ∀ x ∈ xs, ActOk x) :
    Calls Try.prog 11 #[.slice A0 xs.length c0] w fun e w' => FewPost xs.length w0 e w' := by
  have HR := Aside0.mk hr
  have HOK := Aside0.mk hok
  have HW := Aside0.mk hw
  obtain ⟨n, hn⟩ : ∃ n, xs.length = n := ⟨_, rfl⟩
  rw [hn] at HR ⊢
  have HN := Aside0.mk hn
  have hnm : n ≤ 9223372036854775807 := by rw [← hn]; exact hr.2.1
  clear hr hok hw hn
  go_enter Try.func11, Try.ntmps11
  go_wp2
  go_loopw [8, 3] (fun i s wr => ∃ (k : Nat) (q : Nat), i = .int .i64 k ∧ s = .int .i64 q ∧ k ≤ n ∧ k ≤ 201 ∧ q ≤ 500 ∧ Aside0 (Below w0.heap.size w0 wr)) (fun i _ _ => n - (intOf i).toNat)
  case atStart => exact ⟨0, 0, rfl, rfl, Nat.zero_le _, by omega, by omega, HW⟩
  case round =>
    clear HW
    obtain ⟨k, q, rfl, rfl, hk, hk2, hq, HW⟩ := hrel
    by_cases hlt : k < n
    · obtain ⟨ad, Ar, cr, rfl, hx0, hx1, hx2, hcr, hC⟩ := k34_at (Kd.C_below HR.out HW.out) k hlt
      have ho : ActOk (xs.getD k z34) := HOK.out _ (by rw [List.getD_eq_getElem?_getD, List.getElem?_eq_getElem (by rw [HN.out]; omega)]; simp)
      obtain ⟨x, hx⟩ : ∃ x, xs.getD k z34 = x := ⟨_, rfl⟩
      rw [hx] at hx0 hx1 hx2 hcr ho
      obtain ⟨m, hm⟩ : ∃ m, x.2.2.length = m := ⟨_, rfl⟩
      rw [hm] at hx2 hcr
      have hm2 : m ≤ 8796093022208 := hm ▸ ho.2.2.2.1
      clear hx hm hC ho
      have HB := Aside0.mk (HW.out.alloc HW.out.size (.cells #[.bool x.1, .int .i64 x.2.1, .slice Ar m cr] 34))
      by_cases h5 : 500 < (q : Int) + m
      · have hd := decide_eq_true h5
        go_wp2
        go_ret
        exact ⟨_, rfl, by simp, HB.out⟩
      · have hd := decide_eq_false h5
        by_cases h6 : 200 < (k : Int)
        · have hd2 := decide_eq_true h6
          go_wp2
          go_ret
          exact ⟨_, rfl, by simp, HB.out⟩
        · have hd2 := decide_eq_false h6
          go_wp2
          exact ⟨⟨k + 1, q + m, by push_cast; rfl, by push_cast; rfl, by omega, by omega, by omega, HB⟩, by simp [intOf]; omega⟩
    · obtain rfl : k = n := by omega
      go_wp2
      go_ret
      exact ⟨_, rfl, fun _ => by omega, HW.out⟩
end Go.Proofs.Ytfmggodmhklfoaa.Lib
