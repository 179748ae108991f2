/- the reader of blocks: New, Done, Seen, Rest; slices.Clone: walked by hand. -/
import Derived.Test.YtcfdhfgnfakiiaaV2
import Derived.Shelf.AbstractIn
namespace Go.Proofs.Ytcfdhfgnfakiiaa.Lib
open Go.RowKit Go.Proofs.YtcfdhfgnfakiiaaW.PrintWords Go.Proofs.YtcfdhfgnfakiiaaW.PrintLast Go.Proofs.YtcfdhfgnfakiiaaW.PrintMore
set_option maxRecDepth 100000 in
theorem new_walk (n₀ : Nat) (w : World) (hn : n₀ ≤ w.heap.size) :
    Calls Try.prog 11 #[] w fun e w' => ∃ g, e = .returned (.pointer (some ⟨g, 0, none⟩)) ∧ IsRd w' n₀ g 0 0 false (.slice none 0 0) [] ∧ Below w.heap.size w w' ∧ w.heap.size ≤ g := by
  have hu45 := Try.underlying45
  go_enter Try.func11, Try.ntmps11
  go_wp2
  go_ret
  exact ⟨_, rfl, ⟨by simpa using heap_alloc_new w _, hn, Kd.R_nil _ _ _ _ _⟩, (Below.refl _ _).alloc (Nat.le_refl _) _, Nat.le_refl _⟩
set_option maxRecDepth 100000 in
theorem done_walk (n₀ g : Nat) (left seen : Int) (done : Bool) (vr : Value) (rest : List Int) (w : World) (hI : IsRd w n₀ g left seen done vr rest) :
    Calls Try.prog 14 #[.pointer (some ⟨g, 0, none⟩)] w fun e w' => e = .returned (.bool done) ∧ ∃ m, w' = w.drewN m := by
  have hc2 := blk_cell hI.1 2
  go_enter Try.func14, Try.ntmps14
  go_wp2
  go_ret
  exact ⟨rfl, 0, rfl⟩
set_option maxRecDepth 100000 in
theorem seen_walk (n₀ g : Nat) (left seen : Int) (done : Bool) (vr : Value) (rest : List Int) (w : World) (hI : IsRd w n₀ g left seen done vr rest) :
    Calls Try.prog 16 #[.pointer (some ⟨g, 0, none⟩)] w fun e w' => e = .returned (.int .i64 seen) ∧ ∃ m, w' = w.drewN m := by
  have hc1 := blk_cell hI.1 1
  go_enter Try.func16, Try.ntmps16
  go_wp2
  go_ret
  exact ⟨rfl, 0, rfl⟩
set_option maxRecDepth 100000 in
theorem clone_walk (A : Option Addr) (c : Nat) (l : List Int) (w : World) (hr : Kd.C (Kd.int .u8) w A l.length l) (hl : l.length ≤ 140737488351232) :
    Calls Try.prog 18 #[.slice A l.length c] w fun e w' => ∃ v, e = .returned v ∧ Kd.R (Kd.int .u8) 5 w' w.heap.size (fun k => w.heap.size ≤ k) v l ∧ Below w.heap.size w w' := by
  have HR := Aside0.mk hr
  clear hr
  have hu22 := Try.underlying22
  have q22 : ∀ (w : World) (a : Option Addr) (n c n' c' : Nat), (binOp .eql 22 (.slice a n c) (.slice none n' c')).run Try.prog w = .ok (.bool a.isNone) w := fun w a n c n' c' => Go.Lib.run_eql_slice_nil w _ _ a n c n' c' Try.underlying22
  go_enter Try.func18, Try.ntmps18
  cases A with
  | none =>
    have h0 : l.length = 0 := by
      rcases Nat.eq_zero_or_pos l.length with h | h
      · exact h
      · obtain ⟨ad, e, _⟩ := HR.out.2.2 h
        cases e
    obtain rfl := List.length_eq_zero_iff.1 h0
    go_wp2
    go_ret
    exact ⟨_, rfl, Kd.R_nil _ _ _ _ _, Below.refl _ _⟩
  | some ad =>
    go_wp2_with (first | ((with_reducible refine gate_dst (N := 5) rfl ?_); refine Kd.R_lit (Kd.int .u8) _ 5 ?hg (N := 5) ?hd (xs := ([] : List Int)) (inner := []) (ok := fun k => w.heap.size ≤ k) (okp := fun k => w.heap.size ≤ k) ?hr ?hp (fun _ hk => hk) (Nat.le_refl _) (Below.refl _ _) (Nat.le_refl _) (by simp) ?_; (case hd => rfl); (case hg => rfl); (case hr => first | (go_simp; done) | (go_simp; rfl)); (case hp => exact (Reps.none _ _)); intro v1 w1 ho1 hb1 hg_ hnew_; clear hg_ hnew_) | (at_builtin; refine Kd.R_append_rows (Kd.int .u8) (w0 := w) w.heap.size rfl (.tmp 5) (.tmp 6) 22 5 (.int .u8 0) 1 rfl Try.underlying22 info5_ rfl (by decide) (by omega) v1 [] l _ _ _ (fun k => w.heap.size ≤ k) (fun _ => False) rfl rfl ho1 (Kd.C_below HR.out hb1) (fun _ _ h => h) (fun _ h => h.elim) (fun k hk => Nat.le_trans hb1.size hk) hb1 hb1.size (by simp; omega) ?_; intro v2 w2 ho2 hb2 hg2 hat2; clear hg2 hat2))
    go_ret
    exact ⟨_, rfl, by simpa using ho2, hb2⟩
set_option maxRecDepth 100000 in
theorem rest_walk (n₀ g : Nat) (left seen : Int) (done : Bool) (vr : Value) (rest : List Int) (w : World) (hI : IsRd w n₀ g left seen done vr rest) (hl : rest.length ≤ 140737488351232) :
    Calls Try.prog 15 #[.pointer (some ⟨g, 0, none⟩)] w fun e w' => ∃ v, e = .returned v ∧ Kd.R (Kd.int .u8) 5 w' w.heap.size (fun k => w.heap.size ≤ k) v rest ∧ Below w.heap.size w w' := by
  obtain ⟨hg, _, ho⟩ := hI
  obtain ⟨A, c, rfl, _, hC⟩ := Kd.R_reads ho
  have hc3 := blk_cell hg 3
  have HC := Aside0.mk hC
  clear hC ho hg
  go_enter Try.func15, Try.ntmps15
  go_wp2_with (go_at_call 18; refine (clone_walk A c rest w HC.out hl).mono ?_; rintro e w' ⟨v, rfl, ho, hb⟩)
  go_ret
  exact ⟨_, rfl, ho, hb⟩
end Go.Proofs.Ytcfdhfgnfakiiaa.Lib
