/- halftonelaw11.same, of the same chunks: walked by hand. -/
import Derived.Test.YtapaodagnpaekaaF0
import Derived.BigQuiet
namespace Go.Proofs.Ytapaodagnpaekaa.Lib
open Go.RowKit Go.Proofs.YtapaodagnpaekaaW.PrintWords Go.Proofs.YtapaodagnpaekaaW.PrintLast Go.Proofs.YtapaodagnpaekaaW.PrintMore
set_option linter.unusedVariables false
set_option linter.unusedSimpArgs false
theorem same_any (A B : Option Addr) (m c d : Nat) (l : List Int) (hl : l.length = m) (hc : m ≤ c) (hd : m ≤ d) (W : World) (hA : Kd.C (Kd.int .u8) W A m l) (hB : Kd.C (Kd.int .u8) W B m l) : Calls Try.prog 17 #[.slice A m c, .slice B m d] W fun e w' => e = .returned (.bool true) ∧ Drawn0 W w' := by
  subst hl
  exact halftoneref01_Same.calls A c l B d l true W hA hc hB hd (by simp [halftoneref01_Same.f])
theorem same_q {j : Nat} (A B : Option Addr) (m c d : Nat) (l : List Int) (hl : l.length = m) (hc : m ≤ c) (hd : m ≤ d) (W : World) (hA : Kd.C (Kd.int .u8) W A m l) (hB : Kd.C (Kd.int .u8) W B m l) : Calls Try.prog 17 #[.slice A m c, .slice B m d] (W.drewN j) fun e w' => e = .returned (.bool true) ∧ ∃ k, w' = W.drewN k := by
  refine Calls.quiet_of ((same_any A B m c d l hl hc hd (W.drewN j) (Kd.C_drewN hA j) (Kd.C_drewN hB j)).mono ?_)
  rintro e w' ⟨he, ⟨k, rfl⟩⟩
  exact ⟨he, k, rfl⟩
set_option maxHeartbeats 2000000 in
set_option maxRecDepth 100000 in
theorem same_walk (A B : Option Addr) (n c d : Nat) (l : List S46) (w : World) (hl : l.length = n) (hA : Kd.C k46 w A n l) (hB : Kd.C k46 w B n l) (hn : n ≤ 1000000) : Calls Try.prog 14 #[.slice A n c, .slice B n d] w fun e w' => e = .returned (.bool true) ∧ Drawn0 w w' := by
  have HA := Aside0.mk hA
  have HB := Aside0.mk hB
  clear hA hB hl
  go_enter Try.func14, Try.ntmps14
  go_wp2
  go_loopw [13] (fun i wr => ∃ t q : Nat, i = .int .i64 t ∧ t ≤ n ∧ wr = w.drewN q) (fun i _ => n - (intOf i).toNat)
  case atStart => exact ⟨0, 0, rfl, Nat.zero_le _, rfl⟩
  case round =>
    obtain ⟨t, q, rfl, ht, rfl⟩ := hrel
    by_cases hlt : t < n
    · obtain ⟨ad, A2, c2, rfl, a0, a1, a2, a3, a4, a5⟩ := at_T46 (Kd.C_drewN HA.out q) (t : Int) (by omega) (by omega)
      obtain ⟨bd, B2, d2, rfl, b0, b1, b2, b3, b4, b5⟩ := at_T46 (Kd.C_drewN HB.out q) (t : Int) (by omega) (by omega)
      have HSM := Aside0.mk (fun j => same_q (j := j) A2 B2 _ c2 d2 _ rfl a4 b4 _ a5 b5)
      generalize rd_T46 l (t : Int) = x at a0 a1 a2 a3 a4 a5 b0 b1 b2 b3 b4 b5 HSM
      obtain ⟨s, z, dt, en⟩ := x
      simp only [Int.toNat_natCast] at a0 a1 a2 a3 a4 a5 b0 b1 b2 b3 b4 b5 HSM
      obtain ⟨m, hm⟩ : ∃ m, dt.length = m := ⟨_, rfl⟩
      rw [hm] at a2 b2 HSM
      clear a4 a5 b4 b5 hm
      have h0 : (0 : Int) ≤ (t : Int) := by omega
      have h1 : (t : Int) < (n : Int) := by omega
      obtain ⟨W, hW⟩ : ∃ W, w.drewN q = W := ⟨_, rfl⟩
      rw [hW] at a0 a1 a2 a3 b0 b1 b2 b3 HSM ⊢
      have HW := Aside0.mk hW
      clear hW
      go_wp2
      go_quiet ((go_at_call 17; exact HSM.out _))
      go_wp2
      go_roundw
      case rel => exact ⟨t + 1, q + nq, by go_num, by omega, by rw [← HW.out, World.drewN_drewN]⟩
      case measure => simp [intOf]; omega
    · obtain rfl : t = n := by omega
      go_wp2
      go_ret
      exact ⟨rfl, q, rfl⟩
end Go.Proofs.Ytapaodagnpaekaa.Lib
