/- chunk: New, Between, what a nil reader and one that failed tell: walked by hand. -/
import Derived.Test.YtapaodagnpaekaaVf
namespace Go.Proofs.Ytapaodagnpaekaa.Lib
open Go.RowKit Go.Proofs.YtapaodagnpaekaaW.PrintWords Go.Proofs.YtapaodagnpaekaaW.PrintLast Go.Proofs.YtapaodagnpaekaaW.PrintMore
set_option linter.unusedVariables false
set_option linter.unusedSimpArgs false
set_option maxRecDepth 100000 in
theorem new_walk (w : World) : Calls Try.prog 9 #[] w fun e w' => e = .returned (.pointer (some ⟨w.heap.size, 0, none⟩)) ∧ w' = w.alloc (.cells #[.int .i64 0, .slice none 0 0, .string ⟨#[]⟩, .int .i64 0, .int .i64 0, .int .u32 0, .int .i64 0] 59) := by
  go_enter Try.func9, Try.ntmps9
  go_wp2
  go_ret
  exact ⟨rfl, rfl⟩
theorem new_rd (w : World) (n₀ : Nat) (hn : n₀ ≤ w.heap.size) : IsRd (w.alloc (.cells #[.int .i64 0, .slice none 0 0, .string ⟨#[]⟩, .int .i64 0, .int .i64 0, .int .u32 0, .int .i64 0] 59)) n₀ w.heap.size (.slice none 0 0) RS.new :=
  ⟨heap_alloc_new w _, Kd.R_nil _ _ _ _ _, hn⟩
theorem new_ok : RsOk RS.new := ⟨by decide, fun x hx => by simp [RS.new] at hx, ⟨by decide, by decide⟩, by decide, by decide, by decide⟩
/-- between chunks? -/
def betB (r : RS) : Bool := (r.e == 0) && (r.st == 1) && (r.held.length == 0)
set_option maxRecDepth 100000 in
theorem between_walk {W : World} {n₀ g : Nat} {hv : Value} {r : RS} (h : IsRd W n₀ g hv r) : Calls Try.prog 12 #[.pointer (some ⟨g, 0, none⟩)] W fun e w' => e = .returned (.bool (betB r)) ∧ w' = W := by
  obtain ⟨Ah, ch, rfl⟩ := Kd.R_slice h.row
  have hg6 := blk_cell h.blk 6
  have hg0 := blk_cell h.blk 0
  have hg1 := blk_cell h.blk 1
  unfold betB
  by_cases h6 : r.e = 0
  · have hb6 : (r.e == 0) = true := beq_iff_eq.2 h6
    by_cases h0 : r.st = 1
    · have hb0 : (r.st == 1) = true := beq_iff_eq.2 h0
      by_cases h1 : r.held.length = 0
      · have hb1 : ((r.held.length : Int) == 0) = true := beq_iff_eq.2 (by omega)
        have hb2 : (r.held.length == 0) = true := beq_iff_eq.2 h1
        rw [hb6, hb0, hb2]
        clear h h6 h0 h1 hb2
        go_enter Try.func12, Try.ntmps12
        go_wp2
        go_ret
        exact ⟨rfl, rfl⟩
      · have hb1 : ((r.held.length : Int) == 0) = false := beq_eq_false_iff_ne.2 (by omega)
        have hb2 : (r.held.length == 0) = false := beq_eq_false_iff_ne.2 h1
        rw [hb6, hb0, hb2]
        clear h h6 h0 h1 hb2
        go_enter Try.func12, Try.ntmps12
        go_wp2
        go_ret
        exact ⟨rfl, rfl⟩
    · have hb0 : (r.st == 1) = false := beq_eq_false_iff_ne.2 h0
      rw [hb6, hb0]
      clear h h6 h0
      go_enter Try.func12, Try.ntmps12
      go_wp2
      go_ret
      exact ⟨rfl, rfl⟩
  · have hb6 : (r.e == 0) = false := beq_eq_false_iff_ne.2 h6
    rw [hb6]
    clear h h6
    go_enter Try.func12, Try.ntmps12
    go_wp2
    go_ret
    exact ⟨rfl, rfl⟩
set_option maxRecDepth 100000 in
theorem between_nil (w : World) : Calls Try.prog 12 #[.pointer none] w fun e w' => e = .returned (.bool false) ∧ w' = w := by
  go_enter Try.func12, Try.ntmps12
  go_wp2
  go_ret
  exact ⟨rfl, rfl⟩
set_option maxRecDepth 100000 in
theorem push_nil (A : Option Addr) (n c : Nat) (w : World) : Calls Try.prog 10 #[.pointer none, .slice A n c] w fun e w' => e = .returned (.tuple #[.slice none 0 0, .int .i64 1]) ∧ Below w.heap.size w w' := by
  go_enter Try.func10, Try.ntmps10
  go_wp2
  go_step3
  go_wp2
  try rw [Exit.noGoto_ret]
  go_ret2
  exact ⟨rfl, below_alloc (Below.refl _ _) _⟩
set_option maxRecDepth 100000 in
/-- a reader that failed -/
theorem push_e {w : World} {n₀ g : Nat} {hv : Value} {r : RS} (h : IsRd w n₀ g hv r) (he : r.e ≠ 0) (A : Option Addr) (n c : Nat) : Calls Try.prog 10 #[.pointer (some ⟨g, 0, none⟩), .slice A n c] w fun e w' => e = .returned (.tuple #[.slice none 0 0, .int .i64 r.e]) ∧ Below w.heap.size w w' := by
  have h2 := blk_alloc h.blk (.cells #[.pointer (some ⟨g, 0, none⟩)] 24)
  have hx6 := blk_cell h2 6
  have hb6 : (r.e == 0) = false := beq_eq_false_iff_ne.2 he
  have hb6' : (r.e != 0) = true := bne_iff_ne.2 he
  clear h h2 he
  go_enter Try.func10, Try.ntmps10
  go_wp2
  go_step3
  go_wp2
  go_region
  all_goals go_wp2
  try rw [Exit.noGoto_ret]
  go_ret2
  exact ⟨rfl, below_drew (below_alloc (Below.refl _ _) _)⟩
theorem C_keptR {w : World} {g b n c : Nat} {hv0 : Value} {ok : Nat → Prop} {A : Option Addr} {xs : List Int} (hl : xs.length = n) (hR : Kd.R (Kd.int .u8) 5 w b ok (.slice A n c) xs) (hS : ∀ k, (Value.slice A n c).ownBlock = some k → ¬ RdS g hv0 k) : ∀ W', Kept w W' (RdS g hv0) → Kd.C (Kd.int .u8) W' A n xs := fun W' hk => by
  have h := (Kd.R_reads' (Kd.R_kept (Kd.R_tight rfl hR) hk (fun k e => hS k e.symm))).2.2
  rw [hl] at h
  exact h
theorem fx_new (w : World) (n₀ : Nat) (hn : n₀ ≤ w.heap.size) : Calls Try.prog 9 #[] w fun e w' => ∃ g, e = .returned (.pointer (some ⟨g, 0, none⟩)) ∧ g = w.heap.size ∧ IsRd w' n₀ g (.slice none 0 0) RS.new ∧ Below w.heap.size w w' := by
  refine (new_walk w).mono ?_
  rintro e w' ⟨rfl, rfl⟩
  exact ⟨_, rfl, rfl, new_rd w n₀ hn, below_alloc (Below.refl _ _) _⟩
end Go.Proofs.Ytapaodagnpaekaa.Lib
