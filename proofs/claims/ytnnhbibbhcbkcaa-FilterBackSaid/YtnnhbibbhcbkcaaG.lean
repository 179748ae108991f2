/- filter.guess, walked by hand: what a byte is thought to be. -/
import Derived.Test.YtnnhbibbhcbkcaaProg
import Derived.Test.YtnnhbibbhcbkcaaWWords
import Derived.Test.YtnnhbibbhcbkcaaWMore
import Derived.Test.YtnnhbibbhcbkcaaWLast
import Derived.WalkKit
import Derived.BigQuiet
import Derived.WalkMore
import Derived.WalkSpells
import Derived.WalkLawsBesides
namespace Go.Proofs.Ytnnhbibbhcbkcaa.Lib
open Go.RowKit Go.Proofs.YtnnhbibbhcbkcaaW.PrintWords Go.Proofs.YtnnhbibbhcbkcaaW.PrintLast Go.Proofs.YtnnhbibbhcbkcaaW.PrintMore
attribute [local go_sem] max2_int min2_int max_two min_two
set_option linter.unusedVariables false
set_option linter.unusedSimpArgs false
def absI (x : Int) : Int := if x < -x then -x else x
/-- what a byte is thought to be -/
def guessN (kind l u c : Int) : Int :=
  if kind = 1 then l else if kind = 2 then u else if kind = 3 then (l + u) / 2
  else if kind = 4 then
    (if absI (u - c) ≤ absI (l - c) ∧ absI (u - c) ≤ absI (u - c + (l - c)) then l else if absI (l - c) ≤ absI (u - c + (l - c)) then u else c)
  else 0
theorem guess_1 (l u c : Int) (w : World) : Calls Try.prog 21 #[.int .i64 1, .int .u8 l, .int .u8 u, .int .u8 c] w fun e w' => e = .returned (.int .u8 l) ∧ Below w.heap.size w w' := by
  go_enter Try.func21, Try.ntmps21
  go_wp2
  go_ret
  exact ⟨rfl, Below.refl _ _⟩
theorem guess_4 (l u c : Int) (w : World) (hl : 0 ≤ l ∧ l ≤ 255) (hu : 0 ≤ u ∧ u ≤ 255) (hc : 0 ≤ c ∧ c ≤ 255) : Calls Try.prog 21 #[.int .i64 4, .int .u8 l, .int .u8 u, .int .u8 c] w fun e w' => e = .returned (.int .u8 (guessN 4 l u c)) ∧ Below w.heap.size w w' := by
  obtain ⟨h1, h2⟩ := hl
  obtain ⟨h3, h4⟩ := hu
  obtain ⟨h5, h6⟩ := hc
  have hg : guessN 4 l u c = (if absI (u - c) ≤ absI (l - c) ∧ absI (u - c) ≤ absI (u - c + (l - c)) then l else if absI (l - c) ≤ absI (u - c + (l - c)) then u else c) := rfl
  obtain ⟨r, hr⟩ : ∃ r, guessN 4 l u c = r := ⟨_, rfl⟩
  rw [hr] at hg ⊢
  obtain ⟨a, ha⟩ : ∃ a, u - c = a := ⟨_, rfl⟩
  obtain ⟨b, hb⟩ : ∃ b, l - c = b := ⟨_, rfl⟩
  obtain ⟨s, hs⟩ : ∃ s, a + b = s := ⟨_, rfl⟩
  rw [ha, hb, hs] at hg
  obtain ⟨x, hx⟩ : ∃ x, absI a = x := ⟨_, rfl⟩
  obtain ⟨y, hy⟩ : ∃ y, absI b = y := ⟨_, rfl⟩
  obtain ⟨z, hz⟩ : ∃ z, absI s = z := ⟨_, rfl⟩
  rw [hx, hy, hz] at hg
  have hx' : (if a < -a then -a else a) = x := hx
  have hy' : (if b < -b then -b else b) = y := hy
  have hz' : (if s < -s then -s else s) = z := hz
  have a1 : -255 ≤ a := by omega
  have a2 : a ≤ 255 := by omega
  have b1 : -255 ≤ b := by omega
  have b2 : b ≤ 255 := by omega
  have s1 : -510 ≤ s := by omega
  have s2 : s ≤ 510 := by omega
  clear hr hx hy hz
  have HG := Aside0.mk hg
  clear hg
  have i0 : ∀ (x0 x1 x2 : Value) (w : World), (Instr.index 44 (.agg #[x0, x1, x2]) (.int .i64 0)).run Try.prog w = .ok x0 w := fun _ _ _ _ => by kernel_rfl
  have i1 : ∀ (x0 x1 x2 : Value) (w : World), (Instr.index 44 (.agg #[x0, x1, x2]) (.int .i64 1)).run Try.prog w = .ok x1 w := fun _ _ _ _ => by kernel_rfl
  have i2 : ∀ (x0 x1 x2 : Value) (w : World), (Instr.index 44 (.agg #[x0, x1, x2]) (.int .i64 2)).run Try.prog w = .ok x2 w := fun _ _ _ _ => by kernel_rfl
  go_enter Try.func21, Try.ntmps21
  go_wp2
  refine wp_loop_rounds 4 ?_
  rw [rounds_succ]
  go_wp2
  rw [rounds_succ]
  go_wp2
  rw [rounds_succ]
  go_wp2
  rw [rounds_succ]
  go_wp2
  all_goals
    go_ret
    refine ⟨congrArg (fun n : Int => Ending.returned (.int .u8 n)) ?_, (Below.refl _ _).alloc (Nat.le_refl _) _⟩
    rw [HG.out]
    first | rw [if_pos (by omega)] | (rw [if_neg (by omega)]; first | rw [if_pos (by omega)] | rw [if_neg (by omega)])
theorem guess_2 (l u c : Int) (w : World) : Calls Try.prog 21 #[.int .i64 2, .int .u8 l, .int .u8 u, .int .u8 c] w fun e w' => e = .returned (.int .u8 u) ∧ Below w.heap.size w w' := by
  go_enter Try.func21, Try.ntmps21
  go_wp2
  go_ret
  exact ⟨rfl, Below.refl _ _⟩
theorem guess_3 (l u c : Int) (w : World) (hl : 0 ≤ l ∧ l ≤ 255) (hu : 0 ≤ u ∧ u ≤ 255) : Calls Try.prog 21 #[.int .i64 3, .int .u8 l, .int .u8 u, .int .u8 c] w fun e w' => e = .returned (.int .u8 ((l + u) / 2)) ∧ Below w.heap.size w w' := by
  obtain ⟨h1, h2⟩ := hl
  obtain ⟨h3, h4⟩ := hu
  go_enter Try.func21, Try.ntmps21
  go_wp2
  go_ret
  exact ⟨by congr 2; try omega, Below.refl _ _⟩
theorem guess_0 (k l u c : Int) (w : World) (h1 : (k == 1) = false) (h2 : (k == 2) = false) (h3 : (k == 3) = false) (h4 : (k == 4) = false) : Calls Try.prog 21 #[.int .i64 k, .int .u8 l, .int .u8 u, .int .u8 c] w fun e w' => e = .returned (.int .u8 0) ∧ Below w.heap.size w w' := by
  go_enter Try.func21, Try.ntmps21
  go_wp2
  go_ret
  exact ⟨rfl, Below.refl _ _⟩
theorem guess_any (k l u c : Int) (w : World) (hl : 0 ≤ l ∧ l ≤ 255) (hu : 0 ≤ u ∧ u ≤ 255) (hc : 0 ≤ c ∧ c ≤ 255) : Calls Try.prog 21 #[.int .i64 k, .int .u8 l, .int .u8 u, .int .u8 c] w fun e w' => e = .returned (.int .u8 (guessN k l u c)) ∧ Below w.heap.size w w' := by
  by_cases h1 : k = 1
  · subst h1; exact guess_1 l u c w
  by_cases h2 : k = 2
  · subst h2; exact guess_2 l u c w
  by_cases h3 : k = 3
  · subst h3; exact guess_3 l u c w hl hu
  by_cases h4 : k = 4
  · subst h4; exact guess_4 l u c w hl hu hc
  have : guessN k l u c = 0 := by unfold guessN; rw [if_neg h1, if_neg h2, if_neg h3, if_neg h4]
  rw [this]
  exact guess_0 k l u c w (beq_eq_false_iff_ne.2 h1) (beq_eq_false_iff_ne.2 h2) (beq_eq_false_iff_ne.2 h3) (beq_eq_false_iff_ne.2 h4)
theorem guess_range (k l u c : Int) (hl : 0 ≤ l ∧ l ≤ 255) (hu : 0 ≤ u ∧ u ≤ 255) (hc : 0 ≤ c ∧ c ≤ 255) : 0 ≤ guessN k l u c ∧ guessN k l u c ≤ 255 := by
  unfold guessN
  repeat' split
  all_goals omega
end Go.Proofs.Ytnnhbibbhcbkcaa.Lib
