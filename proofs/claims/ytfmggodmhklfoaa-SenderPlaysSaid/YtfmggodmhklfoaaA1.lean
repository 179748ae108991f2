/- SenderCalm: walked by hand. -/
import Derived.Test.YtfmggodmhklfoaaV9
import Derived.OpenShut
namespace Go.Proofs.Ytfmggodmhklfoaa.Lib
open Go.RowKit Go.Shelf Go.Proofs.YtfmggodmhklfoaaW.PrintWords Go.Proofs.YtfmggodmhklfoaaW.PrintLast Go.Proofs.YtfmggodmhklfoaaW.PrintMore
set_option linter.unusedVariables false
set_option linter.unusedSimpArgs false
/-! the plain law -/
theorem calm_tick (c : Cfg) (bs nw : Int) : tickL c bs nw [] = (List.replicate (mn c.wd (c.n - bs)).toNat ⟨false, false, c.fs, nw + 1 + c.fs⟩, (List.range (mn c.wd (c.n - bs)).toNat).map fun t : Nat => bs + (t : Int)) := by
  simp [tickL, opensTo, runT, fillT]
theorem calm_mark (bs : Int) (m : Nat) (x : S54) (hb : 0 ≤ bs) : markL bs (List.replicate m x) 0 (bs + m) = List.replicate m { x with f0 := true } := by
  apply List.ext_getElem (by simp [markL])
  intro i h1 h2
  have hi : i < m := by simpa [markL] using h1
  simp only [markL, List.getElem_mapIdx, List.getElem_replicate]
  rw [if_pos (by omega)]
theorem calm_drop (x : S54) (hx : x.f0 = true) : ∀ (m : Nat) (bs : Int), dropA bs (List.replicate m x) = (bs + m, [])
  | 0, bs => by simp [dropA]
  | m + 1, bs => by
    rw [List.replicate_succ, dropA, if_pos hx, calm_drop x hx m]
    push_cast
    congr 1
    omega
def calmN (n wd k : Nat) : Nat := min (k * wd) n
theorem calmN_lt (n wd k : Nat) (hw : 1 ≤ wd) (hk : k < (n + wd - 1) / wd) : calmN n wd k < n ∧ calmN n wd (k + 1) = calmN n wd k + min wd (n - calmN n wd k) := by
  have h := (Nat.le_div_iff_mul_le (by omega)).1 (show k + 1 ≤ (n + wd - 1) / wd from hk)
  unfold calmN
  rw [Nat.add_mul, Nat.one_mul] at *
  omega
theorem calmN_end (n wd : Nat) (hw : 1 ≤ wd) : calmN n wd ((n + wd - 1) / wd) = n := by
  have h1 := Nat.div_add_mod (n + wd - 1) wd
  have h2 := Nat.mod_lt (n + wd - 1) (show wd > 0 by omega)
  unfold calmN
  rw [Nat.mul_comm] at h1
  omega
theorem IsSd.low {W : World} {n₀ n₁ g : Nat} {c : Cfg} {bs nw : Int} (h : IsSd W n₁ g c bs nw (.slice none 0 0) []) (hn : n₀ ≤ n₁) : IsSd W n₀ g c bs nw (.slice none 0 0) [] := ⟨h.blk, Nat.le_trans hn h.ge, Kd.Q_nil _ _ _ _ _⟩
/-- a tick, from the world where the law began -/
theorem tick_st {w0 w : World} {g : Nat} {c : Cfg} {bs nw : Int} {vs : Value} {its : List S54} (hI : IsSd w w0.heap.size g c bs nw vs its) (hw : Below w0.heap.size w0 w) (hc : CfgOk c.n c.wd c.fs c.ms) (hb : 0 ≤ bs ∧ bs ≤ 1048577) (hn : 0 ≤ nw ∧ nw ≤ 1000000) (hm : its.length ≤ 64) (hg : ∀ j, 0 ≤ (its.getD j z54).f2 ∧ (its.getD j z54).f2 ≤ 65536) {P : List S54 × List Int} (hP : tickL c bs nw its = P) {L : Nat} (hL : P.2.length = L) :
    Calls Try.prog 15 #[.pointer (some ⟨g, 0, none⟩)] w fun e W' => ∃ A cp v1, e = .returned (.slice A L cp) ∧ L ≤ cp ∧ IsSd W' w0.heap.size g c bs (nw + 1) v1 P.1 ∧ Kd.R (Kd.int .i64) 3 W' w.heap.size (fun _ => True) (.slice A L cp) P.2 ∧ Left w W' w0.heap.size g vs v1 ∧ Below w0.heap.size w0 W' := by
  obtain ⟨h1, h2, h3, h4, h5, h6, h7⟩ := hc
  refine (tick_walk w hI (by omega) (by omega) hg (by omega) (by omega) hw.size (by omega) (by omega) (by omega)).mono ?_
  rw [hP]
  rintro e W' ⟨vo, v1, rfl, hI', ho, hL'⟩
  obtain ⟨A, cp, rfl, hcp, -⟩ := Kd.R_reads ho
  simp only [hL] at ho hcp ⊢
  exact ⟨A, cp, v1, rfl, hcp, hI', ho, hL', hw.trans hL'.below⟩
/-- all that was sent is acked -/
theorem calm_ack {w0 w : World} {g m : Nat} {c : Cfg} {bs nw : Int} {vs : Value} {x : S54} (hI : IsSd w w0.heap.size g c bs nw vs (List.replicate m x)) (hw : Below w0.heap.size w0 w) (hb : 0 ≤ bs ∧ bs ≤ 1048577) (hm : m ≤ 64) {q : Int} (hq : bs + m = q) :
    Calls Try.prog 12 #[.pointer (some ⟨g, 0, none⟩), .int .i64 q, .slice none 0 0] w fun e W' => ∃ v1, e = .returned (.tuple #[]) ∧ IsSd W' w0.heap.size g c q nw v1 [] ∧ Below w0.heap.size w0 W' := by
  subst hq
  refine (ack_walk (bs + m) none 0 [] w0 w (Kd.R_reads' (Kd.R_nil k52 52 w0 0 (fun _ => True))).2.2 hw hI (by simp; omega) (by simp)).mono ?_
  rw [show markAll bs (markL bs (List.replicate m x) 0 (bs + m)) [] = List.replicate m { x with f0 := true } from calm_mark bs m x hb.1, calm_drop _ rfl]
  rintro e W' ⟨rfl, v1, hI', hL⟩
  exact ⟨v1, rfl, hI', hw.trans hL.below⟩
end Go.Proofs.Ytfmggodmhklfoaa.Lib
