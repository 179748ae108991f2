/- receiver: slices.Clone; what Take refuses: walked by hand. -/
import Derived.Test.YthkiedkifhloeaaV1
import Derived.Lib.SliceRun
namespace Go.Proofs.Ythkiedkifhloeaa.Lib
open Go.RowKit Go.Proofs.YthkiedkifhloeaaW.PrintWords Go.Proofs.YthkiedkifhloeaaW.PrintLast Go.Proofs.YthkiedkifhloeaaW.PrintMore
attribute [local go_sem] max2_int min2_int max_two min_two max_three min_three max_four min_four
set_option linter.unusedVariables false
set_option linter.unusedSimpArgs false
theorem info5 : (Try.prog.info? 5).map (fun i => (i.zero, i.size, i.bytes)) = some (some (.int .u8 0), 1, 1) := by kernel_rfl
theorem info22 : (Try.prog.info? 22).map (fun i => (i.zero, i.size, i.bytes)) = some (some (.slice none 0 0), 1, 24) := by kernel_rfl
def ksl : Kd Hd := Kd.scalar (fun t => .slice t.1 t.2.1 t.2.2) (fun _ => rfl)
set_option maxRecDepth 100000 in
theorem clone_walk (A : Option Addr) (n c : Nat) (xs : List Int) (W : World) (hn : xs.length = n) (hC : Kd.C (Kd.int .u8) W A n xs) (hb : n ≤ 1000000) :
    Calls Try.prog 22 #[.slice A n c] W fun e W' => ∃ A1 c1, e = .returned (.slice A1 n c1) ∧ Kd.R (Kd.int .u8) 5 W' W.heap.size (fun _ => True) (.slice A1 n c1) xs ∧ Below W.heap.size W W' := by
  have HC := Aside0.mk hC
  have HN := Aside0.mk hn
  clear hC hn
  have q22 : ∀ (w : World) (a : Option Addr) (n c n' c' : Nat), (binOp .eql 22 (.slice a n c) (.slice none n' c')).run Try.prog w = .ok (.bool a.isNone) w := fun w a n c n' c' => Lib.run_eql_slice_nil w _ _ a n c n' c' Try.underlying22
  cases A with
  | none =>
    have hn0 : n = 0 := by
      have h := HC.out.2.2
      by_cases hp : 0 < n
      · obtain ⟨ad, e, _⟩ := h hp
        cases e
      · omega
    subst hn0
    have hx : xs = [] := List.length_eq_zero_iff.1 HN.out
    subst hx
    go_enter Try.func22, Try.ntmps22
    go_wp2
    go_ret
    exact ⟨none, 0, rfl, Kd.R_nil _ _ _ _ _, Below.refl _ _⟩
  | some ad =>
    go_enter Try.func22, Try.ntmps22
    go_wp2_with (first
      | ((with_reducible refine gate_dst (N := 5) rfl ?_); refine Kd.R_lit (Kd.int .u8) (w0 := W) W.heap.size 5 ?hg (N := 5) ?hd (xs := ([] : List Int)) (inner := []) (ok := fun _ => True) (okp := fun _ => True) ?hr ?hp (fun _ hk => hk) trivial (Below.refl _ _) (Nat.le_refl _) (by simp) ?_; (case hd => rfl); (case hg => rfl); (case hr => first | (go_simp; done) | (go_simp; rfl)); (case hp => exact (Reps.none _ _)); intro v1 w1 ho1 hb1 hg_ hnew_; clear hg_ hnew_; have HO1 := Aside0.mk ho1; have HB1 := Aside0.mk hb1; have HC1 := Aside0.mk (Kd.C_below HC.out hb1); clear ho1 hb1)
      | ((with_reducible refine gate_builtin (b := .append) (xs := #[.tmp 5, .tmp 6]) rfl ?_); at_builtin; go_loud (refine Kd.R_append_rows (Kd.int .u8) (w0 := W) W.heap.size rfl (.tmp 5) (.tmp 6) 22 5 (.int .u8 0) 1 rfl Try.underlying22 info5 rfl (by decide) (by decide) v1 [] xs (some ad) n c (fun _ => True) (fun _ => False) rfl rfl HO1.out HC1.out (fun _ _ h => h) (fun _ h => h.elim) (fun _ _ => trivial) HB1.out HB1.out.size (by simp; omega) ?_); intro v2 w2 ho2 hb2 hg_ hat_; clear hg_ hat_; rw [List.nil_append] at ho2; obtain ⟨A2, c2, rfl⟩ := Kd.R_slice ho2; rw [HN.out] at ho2 ⊢; have HO2 := Aside0.mk ho2; have HB2 := Aside0.mk hb2; clear hb2 ho2 HO1 HB1 HC1))
    go_ret
    exact ⟨A2, c2, rfl, HO2.out, HB2.out⟩
theorem _root_.Go.World.ownsMap.drewN {H : Type} {P : Program} {k : TypeId} {R : Value → Option (DataW H × List MemPlace)} {w : World} {b n : Nat} {D : DataW H} (h : w.ownsMap P k R b n D) (j : Nat) : (w.drewN j).ownsMap P k R b n D := by
  obtain ⟨es, clock, hb, r⟩ := h
  exact ⟨es, clock, hb, r⟩
set_option maxRecDepth 100000 in
/-- what Take refuses -/
theorem take_no {W : World} {g mb : Nat} {n w nx : Int} {F : List (Int × Hd)} (h : IsRv W g mb n w nx F) (hb : 0 ≤ nx ∧ nx ≤ n ∧ n ≤ 1048577 ∧ 1 ≤ w ∧ w ≤ 64) (i : Int) (hi : (Lit.int .i64 i).wf = true) (v : Value) (hno : i < nx ∨ n ≤ i ∨ nx + w ≤ i ∨ (atF F i).isSome = true) :
    Calls Try.prog 10 #[.pointer (some ⟨g, 0, none⟩), .int .i64 i, v] W fun e W' => e = .returned (.tuple #[.slice none 0 0, .bool false]) ∧ Drawn0 W W' := by
  have hg0 := blk_cell h.blk 0
  have hg1 := blk_cell h.blk 1
  have hg2 := blk_cell h.blk 2
  have hwa : wrap64 (nx + w) = nx + w := by unfold wrap64; omega
  have HI := Aside0.mk hi
  have H := Aside0.mk h
  clear h hi
  by_cases h1 : i < nx
  · have d1 : decide (i < nx) = true := decide_eq_true h1
    clear hno
    go_enter Try.func10, Try.ntmps10
    go_wp2
    go_step3
    go_wp2
    go_quiet (fail)
    go_wp2
    try rw [Exit.noGoto_ret]
    go_ret2
    exact ⟨rfl, nq, rfl⟩
  · have d1 : decide (i < nx) = false := decide_eq_false h1
    obtain ⟨mm, hmm, hmn⟩ : ∃ mm : Int, (if nx + w < n then nx + w else n) = mm ∧ (mm ≤ i ↔ (n ≤ i ∨ nx + w ≤ i)) := ⟨_, rfl, by split <;> omega⟩
    by_cases h2 : mm ≤ i
    · have d2 : decide (mm ≤ i) = true := decide_eq_true h2
      clear hno hmn
      go_enter Try.func10, Try.ntmps10
      go_wp2
      go_step3
      go_wp2
      go_quiet (fail)
      go_wp2
      try rw [Exit.noGoto_ret]
      go_ret2
      exact ⟨rfl, nq, rfl⟩
    · have d2 : decide (mm ≤ i) = false := decide_eq_false h2
      have hS := Aside0.mk (show (atF F i).isSome = true from by
        rcases hno with h3 | h3 | h3 | h3
        · exact absurd h3 h1
        · exact absurd (hmn.2 (.inl h3)) h2
        · exact absurd (hmn.2 (.inr h3)) h2
        · exact h3)
      have hg3 := blk_cell H.out.blk 3
      clear hno hmn
      go_enter Try.func10, Try.ntmps10
      go_wp2
      go_step3
      go_wp2
      go_quiet (fail)
      go_wp2_with (at_lookup; refine wpList_lookup_own_ok _ rfl _ _ 49 rfl 3 22 K3 Try.underlying49 tokR (Try.zeroValue22 _) (.held (.slice none 0 0)) [] rfl mb F.length (Dt F) rfl (H.out.mp.drewN nq) _ _ rfl (key3 HI.out) ?_; intro v1 ps hv1; rw [has_Dt, hS.out])
      try rw [Exit.noGoto_ret]
      go_ret2
      exact ⟨rfl, nq, rfl⟩
end Go.Proofs.Ythkiedkifhloeaa.Lib
