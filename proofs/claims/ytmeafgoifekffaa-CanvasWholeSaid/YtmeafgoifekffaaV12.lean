/- the document's canvas: Lay: walked by hand. -/
import Derived.Test.YtmeafgoifekffaaV11
namespace Go.Proofs.Ytmeafgoifekffaa.Lib
open Go.RowKit Go.Shelf Go.Proofs.YtmeafgoifekffaaW.PrintWords Go.Proofs.YtmeafgoifekffaaW.PrintLast Go.Proofs.YtmeafgoifekffaaW.PrintMore
theorem eqA51 (d : Nat) (w : World) (x0 y0 : Int) (x1 y1 : Int) :
    (Op.equalIn (d + 2) 51 (.agg #[.int .i64 x0, .int .i64 x1]) (.agg #[.int .i64 y0, .int .i64 y1])).run Try.prog w = .ok (x0 == y0 && x1 == y1) w := by
  refine eqA_of Try.underlying51 (by kernel_rfl) ?_
  refine eqf_cons (by rfl) (by go_simp; rfl) (by go_simp; rfl) (by go_simp) ?_
  exact eqf_last (by rfl) (by go_simp; rfl) (by go_simp; rfl) (by go_simp)
attribute [local go_sem high] eqA51
attribute [local go_sem] max2_mx min2_mn max_two min_two
set_option linter.unusedVariables false
set_option linter.unusedSimpArgs false
/-- places are apart -/
theorem plc_inj {x y : Nat} {s t : S51} (hs : 0 ≤ plc x y s) (ht : 0 ≤ plc x y t) (h : plc x y s = plc x y t) : s = t := by
  unfold plc placeL at hs ht h
  by_cases h1 : 0 ≤ s.f0 ∧ s.f0 < x ∧ 0 ≤ s.f1 ∧ s.f1 < y
  · by_cases h2 : 0 ≤ t.f0 ∧ t.f0 < x ∧ 0 ≤ t.f1 ∧ t.f1 < y
    · rw [if_pos h1, if_pos h2] at h
      obtain ⟨a1, a2, a3, a4⟩ := h1
      obtain ⟨b1, b2, b3, b4⟩ := h2
      have e1 : (s.f0 + s.f1 * (x : Int)) % x = s.f0 := by rw [Int.add_mul_emod_self_right, Int.emod_eq_of_lt a1 a2]
      have e2 : (t.f0 + t.f1 * (x : Int)) % x = t.f0 := by rw [Int.add_mul_emod_self_right, Int.emod_eq_of_lt b1 b2]
      have e0 : s.f0 = t.f0 := by rw [← e1, ← e2, Int.add_comm s.f0, h, Int.add_comm t.f0]
      have e3 : s.f1 * (x : Int) = t.f1 * x := by omega
      have e4 : s.f1 = t.f1 := Int.eq_of_mul_eq_mul_right (by omega) e3
      cases s
      cases t
      simp only at e0 e4
      rw [e0, e4]
    · rw [if_neg h2] at ht
      omega
  · rw [if_neg h1] at hs
    omega
/-- no place stands there that is known, or stood there before -/
theorem fresh_of {x y : Nat} {spots : List S51} {ks : List Bool} (hin : ∀ j, j < spots.length → 0 ≤ plc x y (spots.getD j z51)) (i : Nat) (hi : i < spots.length) (h1 : ks.getD ((spotsIn x y spots).getD i 0) false = false) (h2 : ∀ j, j < i → spots.getD i z51 ≠ spots.getD j z51) :
    (markL ks ((spotsIn x y spots).take i)).getD ((spotsIn x y spots).getD i 0) false = false := by
  rw [markL_getD, h1, Bool.or_false]
  refine decide_eq_false (fun hm => ?_)
  obtain ⟨j, hj, e⟩ := List.getElem_of_mem hm.1
  rw [List.length_take, spotsIn_length] at hj
  rw [List.getElem_take] at e
  have e2 : (spotsIn x y spots).getD j 0 = (spotsIn x y spots).getD i 0 := by
    rw [← e, List.getD_eq_getElem?_getD, List.getElem?_eq_getElem (by rw [spotsIn_length]; omega), Option.getD_some]
  rw [spotsIn_getD _ _ _ _ (by omega), spotsIn_getD _ _ _ _ hi] at e2
  have p1 := hin j (by omega)
  have p2 := hin i hi
  exact h2 j (by omega) (plc_inj p2 p1 (by omega))
theorem clash_known {x y : Nat} {spots : List S51} {ks : List Bool} (i : Nat) (hi : i < spots.length) (h1 : ks.getD ((spotsIn x y spots).getD i 0) false = true) : clash ks (spotsIn x y spots) = true :=
  clash_at (i := i) (by rw [spotsIn_length]; exact hi) (by rw [markL_getD, h1, Bool.or_true])
theorem clash_twice {x y : Nat} {spots : List S51} {ks : List Bool} (i j : Nat) (hi : i < spots.length) (hj : j < i) (h1 : (spotsIn x y spots).getD i 0 < ks.length) (h2 : spots.getD i z51 = spots.getD j z51) : clash ks (spotsIn x y spots) = true := by
  refine clash_at (i := i) (by rw [spotsIn_length]; exact hi) ?_
  rw [markL_getD, decide_eq_true, Bool.true_or]
  refine ⟨?_, h1⟩
  have e : (spotsIn x y spots).getD i 0 = (spotsIn x y spots).getD j 0 := by rw [spotsIn_getD _ _ _ _ hi, spotsIn_getD _ _ _ _ (by omega), h2]
  rw [e]
  refine List.mem_iff_getElem.2 ⟨j, by rw [List.length_take, spotsIn_length]; omega, ?_⟩
  rw [List.getElem_take, List.getD_eq_getElem?_getD, List.getElem?_eq_getElem (by rw [spotsIn_length]; omega), Option.getD_some]
/-- what the document's Lay keeps -/
structure R2 (W wr : World) (n₀ : Nat) (c : Cv) (ps : List S45) (ks : List Bool) (cells : Array Value) : Prop where
  cv : IsRc wr n₀ c ps ks
  kp : Kept W wr c.S
  bl : Below n₀ W wr
  bx : wr.heap[W.heap.size]? = some (.cells cells 35 (0, 0))
  old : c.g < W.heap.size ∧ c.gp < W.heap.size ∧ c.gk < W.heap.size
section
variable {W wr w1 : World} {n₀ : Nat} {c : Cv} {ps : List S45} {ks : List Bool} {cells : Array Value}
theorem R2.ext (h : R2 W wr n₀ c ps ks cells) (hb : Below wr.heap.size wr w1) (hn : n₀ ≤ W.heap.size) : R2 W w1 n₀ c ps ks cells :=
  ⟨h.cv.ext hb, h.kp.below hb, below_then h.bl (Nat.le_trans hn h.kp.1) hb, blk_below h.bx hb, h.old⟩
theorem R2.mark (h : R2 W wr n₀ c ps ks cells) (i : Nat) (hi : i < c.n) (b : Bool) : R2 W (wr.setCell ⟨c.gk, i, none⟩ (.bool b)) n₀ c ps (ks.set i b) cells :=
  ⟨h.cv.setMark i hi b, h.kp.setCell (p := ⟨c.gk, i, none⟩) (.inl (.inr (.inr rfl))) _, h.bl.setCell (p := ⟨c.gk, i, none⟩) h.cv.gkge _, blk_far h.bx (p := ⟨c.gk, i, none⟩) (by have := h.old.2.2; show W.heap.size ≠ c.gk; omega) _, h.old⟩
theorem R2.pix (h : R2 W wr n₀ c ps ks cells) (i : Nat) (hi : i < c.n) (x : S45) :
    R2 W ((((wr.setCell ⟨c.gp, i * 4, none⟩ (.int .u16 x.f0)).setCell ⟨c.gp, i * 4 + 1, none⟩ (.int .u16 x.f1)).setCell ⟨c.gp, i * 4 + 2, none⟩ (.int .u16 x.f2)).setCell ⟨c.gp, i * 4 + 3, none⟩ (.int .u16 x.f3)) n₀ c (ps.set i x) ks cells := by
  have hge := h.cv.gpge
  have hlt := h.old.2.1
  have hI := h.cv.setPix i hi x
  rw [← setCells4] at hI ⊢
  have e := fun k (hk : k ≠ c.gp) => setCells_far (g := c.gp) [.int .u16 x.f0, .int .u16 x.f1, .int .u16 x.f2, .int .u16 x.f3] (i * 4) (w := wr) k hk
  obtain ⟨s1, s2, s3, s4⟩ := setCells_same c.gp [.int .u16 x.f0, .int .u16 x.f1, .int .u16 x.f2, .int .u16 x.f3] (i * 4) wr
  exact ⟨hI, h.kp.then_ (S2 := fun k => k = c.gp) ⟨Nat.le_of_eq s4.symm, fun k _ hk => e k hk⟩ (fun k hk => .inl (.inr (.inl hk))), h.bl.trans ⟨s1, s2, s3, Nat.le_of_eq s4.symm, fun k hk => e k (by omega)⟩, (e _ (by omega)).trans h.bx, h.old⟩
end
/-- what the document's Lay leaves -/
def RLayP (W : World) (n₀ : Nat) (c : Cv) (P : Int × Nat × List S45 × List Bool) (e : Ending) (W' : World) : Prop :=
  e = .returned (.int .i64 P.1) ∧ IsRc W' n₀ c P.2.2.1 P.2.2.2 ∧ Kept W W' c.S ∧ Below n₀ W W'
set_option maxRecDepth 100000 in
theorem rlay_len {W : World} {n₀ : Nat} {c : Cv} {ps : List S45} {ks : List Bool} (cnt : Nat) (h : IsRc W n₀ c ps ks) (hn₀ : n₀ ≤ W.heap.size) (pass : Int) (A1 A2 : Option Addr) (c1 c2 : Nat) (spots : List S51) (cols : List S45) {n m : Nat} (hn : spots.length = n) (hm : cols.length = m) (hne : n ≠ m) :
    Calls Try.prog 13 #[.pointer (some ⟨c.g, 0, none⟩), .agg #[.int .i64 pass, .slice A1 n c1, .slice A2 m c2]] W fun e w' => RLayP W n₀ c (layL c.x c.y cnt ps ks spots cols) e w' := by
  have HL := Aside0.mk (show layL c.x c.y cnt ps ks spots cols = (1, cnt, ps, ks) from if_pos (.inl (by omega)))
  have H := Aside0.mk h
  have hd : ((n : Int) != (m : Int)) = true := by simp; omega
  have hd2 : (n != m) = true := by simpa using hne
  clear h hn hm hne
  go_enter Try.func13, Try.ntmps13
  go_wp2
  go_ret
  unfold RLayP
  rw [HL.out]
  exact ⟨rfl, H.out.alloc _, Kept.of_below ((Below.refl _ _).alloc (Nat.le_refl _) _) _, (Below.refl _ _).alloc hn₀ _⟩
end Go.Proofs.Ytmeafgoifekffaa.Lib
