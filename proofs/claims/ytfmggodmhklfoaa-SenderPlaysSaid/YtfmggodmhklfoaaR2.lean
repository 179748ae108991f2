/- the document's sender: Base, end, Flight: walked by hand. -/
import Derived.Test.YtfmggodmhklfoaaR1
namespace Go.Proofs.Ytfmggodmhklfoaa.Lib
open Go.RowKit Go.Shelf Go.Proofs.YtfmggodmhklfoaaW.PrintWords Go.Proofs.YtfmggodmhklfoaaW.PrintLast Go.Proofs.YtfmggodmhklfoaaW.PrintMore
set_option linter.unusedVariables false
set_option linter.unusedSimpArgs false
attribute [local go_sem] max2_int min2_int max_two min_two
set_option maxRecDepth 100000 in
set_option maxHeartbeats 1000000 in
theorem rbase_walk {n₀ g : Nat} {c : Cfg} {nw : Int} {vs : Value} {xs : List S57} (b : Nat) (w : World) (hI : IsRf w n₀ g c nw vs xs) (hm : xs.length ≤ 1048577) (hb : b ≤ xs.length) (hlo : ∀ i, i < b → (xs.getD i z57).f1 = true) (hat : b < xs.length → (xs.getD b z57).f1 = false) :
    Calls Try.prog 18 #[.pointer (some ⟨g, 0, none⟩)] w fun e w' => e = .returned (.int .i64 b) ∧ Drawn0 w w' := by
  obtain ⟨A, cp, rfl, hcp, hA⟩ := hI.place
  have hc0 := blk_cell hI.blk 0
  have HI := Aside0.mk hI
  have HLO := Aside0.mk hlo
  have HAT := Aside0.mk hat
  have HA := Aside0.mk hA
  obtain ⟨m, hml⟩ : ∃ m, xs.length = m := ⟨_, rfl⟩
  rw [hml] at hc0 hm hb hcp
  have HM := Aside0.mk hml
  clear hI hlo hat hA hml
  go_enter Try.func18, Try.ntmps18
  go_wp2
  go_loopw [9] (fun i wr => ∃ k : Nat, i = .int .i64 k ∧ k ≤ b ∧ Aside0 (wr = w)) (fun i _ => m - (intOf i).toNat)
  case atStart => exact ⟨0, rfl, Nat.zero_le _, ⟨rfl⟩⟩
  case round =>
    obtain ⟨k, rfl, hk, ⟨rfl⟩⟩ := hrel
    by_cases hkm : k < m
    · obtain ⟨gb, o, rfl⟩ := HA.out (by rw [HM.out]; omega)
      obtain ⟨⟨_, hx1, _, _, _⟩, _⟩ := k57_cells HI.out.row k (by rw [HM.out]; exact hkm)
      by_cases hkb : k < b
      · rw [HLO.out k hkb] at hx1
        go_wp2
        exact ⟨⟨k + 1, by push_cast; rfl, by omega, ⟨by first | rfl | trivial⟩⟩, by simp [intOf]; omega⟩
      · have ek : k = b := by omega
        rw [ek, HAT.out (by rw [HM.out]; omega)] at hx1
        obtain rfl := ek
        go_wp2
        go_ret
        exact ⟨rfl, Drawn0.refl _⟩
    · obtain rfl : k = m := by omega
      obtain rfl : b = k := by omega
      go_wp2
      go_ret
      exact ⟨rfl, Drawn0.refl _⟩
/-- up to where the window goes -/
def endR (n wd b : Nat) : Nat := min n (b + wd)
set_option maxRecDepth 100000 in
set_option maxHeartbeats 1000000 in
theorem rend_walk {n₀ g : Nat} {c : Cfg} {nw : Int} {vs : Value} {xs : List S57} (b wd : Nat) (w : World) (hI : IsRf w n₀ g c nw vs xs) (hm : xs.length ≤ 1048577) (hb : b ≤ xs.length) (hlo : ∀ i, i < b → (xs.getD i z57).f1 = true) (hat : b < xs.length → (xs.getD b z57).f1 = false) (hwd : c.wd = wd) (hwd2 : wd ≤ 64) {E : Nat} (hE : min xs.length (b + wd) = E) :
    Calls Try.prog 23 #[.pointer (some ⟨g, 0, none⟩)] w fun e w' => e = .returned (.int .i64 E) ∧ Drawn0 w w' := by
  have HB := Aside0.mk (show ∀ k : Nat, Calls Try.prog 18 #[.pointer (some ⟨g, 0, none⟩)] (w.drewN k) fun e w' => e = .returned (.int .i64 b) ∧ ∃ m, w' = (w.drewN k).drewN m from fun k => (rbase_walk b (w.drewN k) (hI.drewN k) hm hb hlo hat).mono (fun e w' ⟨h1, h2⟩ => ⟨h1, h2.1⟩))
  obtain ⟨A, cp, rfl, hcp, hA⟩ := hI.place
  have hc0 := blk_cell hI.blk 0
  have hc1 := blk_cell hI.blk 1
  rw [hwd] at hc1
  obtain ⟨m, hml⟩ : ∃ m, xs.length = m := ⟨_, rfl⟩
  rw [hml] at hc0 hm hb hcp hE
  have hEE : (if (b : Int) + wd < m then (b : Int) + wd else (m : Int)) = (E : Int) := by split <;> omega
  clear hI hlo hat hA hml hE
  go_enter Try.func23, Try.ntmps23
  go_wp2
  go_quiet (first | (go_at_call 18; refine Calls.quiet_of (HB.out _)))
  go_wp2
  go_ret
  exact ⟨rfl, ⟨_, rfl⟩⟩
end Go.Proofs.Ytfmggodmhklfoaa.Lib
