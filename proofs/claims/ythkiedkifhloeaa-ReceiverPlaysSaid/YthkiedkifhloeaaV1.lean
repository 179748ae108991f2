/- receiver: the receiver in memory; New, Next, Held, Done: walked by hand. -/
import Derived.Test.YthkiedkifhloeaaK
import Derived.Carry
namespace Go.Proofs.Ythkiedkifhloeaa.Lib
open Go.RowKit Go.Proofs.YthkiedkifhloeaaW.PrintWords Go.Proofs.YthkiedkifhloeaaW.PrintLast Go.Proofs.YthkiedkifhloeaaW.PrintMore
set_option linter.unusedVariables false
set_option linter.unusedSimpArgs false
theorem K3 : Maps.Keyed Try.prog 3 := Maps.int_keyed Try.underlying3
theorem key3 {i : Int} (h : (Lit.int .i64 i).wf = true) : keyOf Try.prog 3 (.int .i64 i) = some (.int .i64 i) := Maps.keyOf_int_mk Try.underlying3 h
theorem wf64 {i : Int} (h : -9223372036854775808 ≤ i ∧ i ≤ 9223372036854775807) : (Lit.int .i64 i).wf = true := by
  unfold Lit.wf
  rw [Bool.and_eq_true, decide_eq_true_eq, decide_eq_true_eq]
  exact h
theorem kept_grown {W w1 : World} {row : Option Nat} {S : Nat → Prop} (hg : W.grownBy w1 row) (hS : ∀ k, row = some k → S k) : Kept W w1 S := Kept.of_grown hg (Kept.refl W S) (fun k hk => .inl (hS k hk))
theorem kept_set {W w1 : World} {S : Nat → Prop} (h : Kept W w1 S) {p : Addr} (hS : S p.block) (v : Value) : Kept W (w1.setCell p v) S := h.setCell (.inl hS) v
/-- the receiver in memory -/
structure IsRv (W : World) (g mb : Nat) (n w nx : Int) (F : List (Int × Hd)) : Prop where
  blk : W.heap[g]? = some (.cells #[.int .i64 n, .int .i64 w, .int .i64 nx, .map (some mb)] 51 (0, 0))
  mp : W.ownsMap Try.prog 3 tokR mb F.length (Dt F)
  asc : Asc F
theorem IsRv.step {W W1 : World} {g mb : Nat} {n w nx : Int} {F : List (Int × Hd)} (h : IsRv W g mb n w nx F) (hg : W1.heap[g]? = W.heap[g]?) (hm : W1.heap[mb]? = W.heap[mb]?) : IsRv W1 g mb n w nx F := by
  refine ⟨hg.trans h.blk, ?_, h.asc⟩
  obtain ⟨es, clock, hb, r⟩ := h.mp
  exact ⟨es, clock, hm.trans hb, r⟩
theorem IsRv.lt {W : World} {g mb : Nat} {n w nx : Int} {F : List (Int × Hd)} (h : IsRv W g mb n w nx F) : g < W.heap.size ∧ mb < W.heap.size ∧ g ≠ mb := by
  refine ⟨blk_lt h.blk, h.mp.lt, ?_⟩
  rintro rfl
  obtain ⟨es, clock, hb, _⟩ := h.mp
  rw [h.blk] at hb
  cases hb
theorem IsRv.below {W W1 : World} {g mb : Nat} {n w nx : Int} {F : List (Int × Hd)} (h : IsRv W g mb n w nx F) (hb : Below W.heap.size W W1) : IsRv W1 g mb n w nx F := h.step (hb.block _ h.lt.1) (hb.block _ h.lt.2.1)
theorem IsRv.kept {W W1 : World} {S : Nat → Prop} {g mb : Nat} {n w nx : Int} {F : List (Int × Hd)} (h : IsRv W g mb n w nx F) (hk : Kept W W1 S) (hg : ¬ S g) (hm : ¬ S mb) : IsRv W1 g mb n w nx F := h.step (hk.2 _ h.lt.1 hg) (hk.2 _ h.lt.2.1 hm)
set_option maxRecDepth 100000 in
theorem new_walk (n w : Int) (W : World) (hn : 0 ≤ n ∧ n ≤ 1048577) (hw : 1 ≤ w ∧ w ≤ 64) :
    Calls Try.prog 8 #[.int .i64 n, .int .i64 w] W fun e W' => ∃ g mb, e = .returned (.tuple #[.pointer (some ⟨g, 0, none⟩), .int .i64 0]) ∧ IsRv W' g mb n w 0 [] ∧ W.heap.size ≤ g ∧ W.heap.size ≤ mb ∧ Below W.heap.size W W' := by
  have h1 : decide (n < 0) = false := decide_eq_false (by omega)
  have h2 : decide (1048577 < n) = false := decide_eq_false (by omega)
  have h3 : decide (w < 1) = false := decide_eq_false (by omega)
  have h4 : decide (64 < w) = false := decide_eq_false (by omega)
  have hmm := @run_makeMap Try.prog
  go_enter Try.func8, Try.ntmps8
  go_wp2
  go_ret2
  refine ⟨_, _, rfl, ⟨by have := heap_alloc_new (W.alloc (.map #[] 0)) (.cells #[.int .i64 n, .int .i64 w, .int .i64 0, .map (some W.heap.size)] 51); rwa [World.size_alloc] at this, ?_, List.Pairwise.nil⟩, by omega, Nat.le_refl _, below_alloc (below_alloc (Below.refl _ _) _) _⟩
  exact (World.ownsMap_made W Try.prog 3 tokR).alloc _
theorem new_bad (n w : Int) (W : World) (h : n < 0 ∨ 1048577 < n ∨ w < 1 ∨ 64 < w) :
    Calls Try.prog 8 #[.int .i64 n, .int .i64 w] W fun e W' => e = .returned (.tuple #[.pointer none, .int .i64 1]) ∧ W' = W := by
  by_cases a1 : n < 0
  · have h1 : decide (n < 0) = true := decide_eq_true a1
    go_enter Try.func8, Try.ntmps8
    go_wp2
    go_ret2
    exact ⟨rfl, rfl⟩
  · have h1 : decide (n < 0) = false := decide_eq_false a1
    by_cases a2 : 1048577 < n
    · have h2 : decide (1048577 < n) = true := decide_eq_true a2
      go_enter Try.func8, Try.ntmps8
      go_wp2
      go_ret2
      exact ⟨rfl, rfl⟩
    · have h2 : decide (1048577 < n) = false := decide_eq_false a2
      by_cases a3 : w < 1
      · have h3 : decide (w < 1) = true := decide_eq_true a3
        go_enter Try.func8, Try.ntmps8
        go_wp2
        go_ret2
        exact ⟨rfl, rfl⟩
      · have h3 : decide (w < 1) = false := decide_eq_false a3
        have h4 : decide (64 < w) = true := decide_eq_true (by omega)
        go_enter Try.func8, Try.ntmps8
        go_wp2
        go_ret2
        exact ⟨rfl, rfl⟩
set_option maxRecDepth 100000 in
theorem held_walk {W : World} {g mb : Nat} {n w nx : Int} {F : List (Int × Hd)} (h : IsRv W g mb n w nx F) : Calls Try.prog 17 #[.pointer (some ⟨g, 0, none⟩)] W fun e W' => e = .returned (.int .i64 F.length) ∧ W' = W := by
  have hg3 := blk_cell h.blk 3
  go_enter Try.func17, Try.ntmps17
  go_wp2_with (at_len; refine wpList_len_own _ rfl _ 49 rfl 3 22 Try.underlying49 tokR mb F.length (Dt F) rfl h.mp ?_)
  rw [size_Dt]
  go_wp2
  go_ret
  exact ⟨rfl, rfl⟩
set_option maxRecDepth 100000 in
theorem next_walk {W : World} {g mb : Nat} {n w nx : Int} {F : List (Int × Hd)} (h : IsRv W g mb n w nx F) : Calls Try.prog 15 #[.pointer (some ⟨g, 0, none⟩)] W fun e W' => e = .returned (.int .i64 nx) ∧ W' = W := by
  have hg2 := blk_cell h.blk 2
  clear h
  go_enter Try.func15, Try.ntmps15
  go_wp2
  go_ret
  exact ⟨rfl, rfl⟩
set_option maxRecDepth 100000 in
theorem done_walk {W : World} {g mb : Nat} {n w nx : Int} {F : List (Int × Hd)} (h : IsRv W g mb n w nx F) : Calls Try.prog 9 #[.pointer (some ⟨g, 0, none⟩)] W fun e W' => e = .returned (.bool (nx == n)) ∧ Drawn0 W W' := by
  have hg2 := blk_cell h.blk 2
  have hg0 := blk_cell h.blk 0
  clear h
  go_enter Try.func9, Try.ntmps9
  go_wp2
  go_quiet (fail)
  go_wp2
  go_ret
  exact ⟨rfl, nq, rfl⟩
/-! a nil receiver -/
set_option maxRecDepth 100000 in
theorem held_nil (W : World) : Calls Try.prog 17 #[.pointer none] W fun e W' => e = .returned (.int .i64 0) ∧ W' = W := by
  go_enter Try.func17, Try.ntmps17
  go_wp2
  go_ret
  exact ⟨rfl, rfl⟩
set_option maxRecDepth 100000 in
theorem next_nil (W : World) : Calls Try.prog 15 #[.pointer none] W fun e W' => e = .returned (.int .i64 0) ∧ W' = W := by
  go_enter Try.func15, Try.ntmps15
  go_wp2
  go_ret
  exact ⟨rfl, rfl⟩
set_option maxRecDepth 100000 in
theorem ranges_nil (W : World) : Calls Try.prog 20 #[.pointer none] W fun e W' => e = .returned (.slice none 0 0) ∧ W' = W := by
  go_enter Try.func20, Try.ntmps20
  go_wp2
  go_step3
  go_wp2
  try rw [Exit.noGoto_ret]
  go_ret
  exact ⟨rfl, rfl⟩
set_option maxRecDepth 100000 in
theorem done_nil (W : World) : Calls Try.prog 9 #[.pointer none] W fun e W' => e = .returned (.bool false) ∧ Drawn0 W W' := by
  go_enter Try.func9, Try.ntmps9
  go_wp2
  go_quiet (fail)
  go_wp2
  go_ret
  exact ⟨rfl, nq, rfl⟩
set_option maxRecDepth 100000 in
theorem take_nil (i : Int) (v : Value) (W : World) : Calls Try.prog 10 #[.pointer none, .int .i64 i, v] W fun e W' => e = .returned (.tuple #[.slice none 0 0, .bool false]) ∧ Drawn0 W W' := by
  go_enter Try.func10, Try.ntmps10
  go_wp2
  go_step3
  go_wp2
  go_quiet (fail)
  go_wp2
  try rw [Exit.noGoto_ret]
  go_ret2
  exact ⟨rfl, nq, rfl⟩
end Go.Proofs.Ythkiedkifhloeaa.Lib
