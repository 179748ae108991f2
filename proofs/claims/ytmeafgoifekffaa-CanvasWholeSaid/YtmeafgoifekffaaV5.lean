/- canvas: Lay: what its rounds keep. -/
import Derived.Test.YtmeafgoifekffaaV4
import Derived.Test.YtmeafgoifekffaaP0
namespace Go.Proofs.Ytmeafgoifekffaa.Lib
open Go.RowKit Go.Proofs.YtmeafgoifekffaaW.PrintWords Go.Proofs.YtmeafgoifekffaaW.PrintLast Go.Proofs.YtmeafgoifekffaaW.PrintMore
set_option linter.unusedVariables false
set_option linter.unusedSimpArgs false
theorem info3_ : (Try.prog.info? 3).map (fun i => (i.zero, i.size, i.bytes)) = some (some (.int .i64 0), 1, 8) := by kernel_rfl
theorem k51_at {w : World} {A : Option Addr} {n : Nat} {xs : List S51} (h : Kd.C k51 w A n xs) (i : Nat) (hi : i < n) : ∃ ad, A = some ad ∧ w.cell? (ad.add (i * 2)) = some (.int .i64 (xs.getD i z51).f0) ∧ w.cell? ⟨(ad.add (i * 2)).block, (ad.add (i * 2)).off + 1, none⟩ = some (.int .i64 (xs.getD i z51).f1) := by
  obtain ⟨ad, e, h1, h2⟩ := at_T51 h (i : Int) (by omega) (by omega)
  simp only [Int.toNat_natCast] at h1 h2
  exact ⟨ad, e, h1, h2⟩
theorem k45_at {w : World} {A : Option Addr} {n : Nat} {xs : List S45} (h : Kd.C k45 w A n xs) (i : Nat) (hi : i < n) : ∃ ad, A = some ad ∧ w.cell? (ad.add (i * 4)) = some (.int .u16 (xs.getD i z45).f0) ∧ w.cell? ⟨(ad.add (i * 4)).block, (ad.add (i * 4)).off + 1, none⟩ = some (.int .u16 (xs.getD i z45).f1) ∧ w.cell? ⟨(ad.add (i * 4)).block, (ad.add (i * 4)).off + 2, none⟩ = some (.int .u16 (xs.getD i z45).f2) ∧ w.cell? ⟨(ad.add (i * 4)).block, (ad.add (i * 4)).off + 3, none⟩ = some (.int .u16 (xs.getD i z45).f3) := by
  obtain ⟨ad, e, h1, h2, h3, h4⟩ := at_T45 h (i : Int) (by omega) (by omega)
  simp only [Int.toNat_natCast] at h1 h2 h3 h4
  exact ⟨ad, e, h1, h2, h3, h4⟩
theorem nat_at {w : World} {A : Option Addr} {n : Nat} {l : List Nat} (h : Kd.C (Kd.int .i64) w A n (l.map Int.ofNat)) (j : Nat) (hj : j < n) : ∃ ad, A = some ad ∧ w.cell? (ad.add j) = some (.int .i64 (l.getD j 0 : Nat)) := by
  obtain ⟨ad, c, e, _, hK, hc⟩ := Kd.C_get h 0 (j : Int) (by omega) (by omega)
  have hl : l.length = n := by have := h.1; simpa using this
  have e0 : (l.map Int.ofNat).getD (j : Int).toNat 0 = (l.getD j 0 : Nat) := by
    rw [Int.toNat_natCast, List.getD_eq_getElem?_getD, List.getElem?_map, List.getElem?_eq_getElem (by omega), List.getD_eq_getElem?_getD, List.getElem?_eq_getElem (by omega)]
    rfl
  rw [e0] at hK
  have e1 : c = [.int .i64 (l.getD j 0 : Nat)] := hK
  subst e1
  refine ⟨ad, e, ?_⟩
  have := hc 0 _ rfl
  rw [show (Kd.int .i64).sz = 1 from rfl] at this
  simpa using this
theorem make3 (n : Nat) (hn : n ≤ 1000000) (w : World) : (Instr.makeSlice 68 (.int .i64 0) (.int .i64 n)).run Try.prog w = .ok (.slice (some ⟨w.heap.size, 0, none⟩) 0 n) (w.alloc (.cells (madeCells #[.int .i64 0] n) 3)) := by
  obtain ⟨i0, hi, hz0, hz1, hz2⟩ := info_parts info3_
  have h := run_make (P := Try.prog) (w := w) 68 3 i0 _ Try.underlying68 hi hz0 .i64 .i64 (0 : Int) (n : Int) (by omega) (by omega) (by rw [hz2]; omega) (by omega)
  rw [hz1] at h
  simp only [Int.toNat_natCast, Nat.mul_one, Int.toNat_zero] at h
  exact h
theorem made3 (n : Nat) (hn : n ≤ 1000000) (W : World) (b : Nat) (hb : b ≤ W.heap.size) : Kd.R (Kd.int .i64) 3 (W.alloc (.cells (madeCells #[.int .i64 0] n) 3)) b (fun k => b ≤ k) (.slice (some ⟨W.heap.size, 0, none⟩) 0 n) [] := by
  refine ⟨fun k hk => ?_, [], ?_, Reps.none _ _⟩
  · have : W.heap.size = k := by simpa [Value.ownBlock] using hk
    subst this
    exact hb
  · exact World.ownsRow_made W _ n hb (by unfold maxLen; omega) (by simp [size_madeCells, show (Kd.int .i64).sz = 1 from rfl])
/-- the rows of the first loop -/
structure L1 (W wr : World) (cells : Array Value) (v : Value) (l : List Int) : Prop where
  bl : Below W.heap.size W wr
  bx : wr.heap[W.heap.size]? = some (.cells cells 35 (0, 0))
  row : Kd.R (Kd.int .i64) 3 wr W.heap.size (fun k => W.heap.size ≤ k) v l
theorem L1.ext {W wr w1 : World} {cells : Array Value} {v : Value} {l : List Int} (h : L1 W wr cells v l) (hb : Below wr.heap.size wr w1) : L1 W w1 cells v l :=
  ⟨below_then h.bl h.bl.size hb, blk_below h.bx hb, Kd.R_below h.row hb⟩
theorem L1.alloc {W wr : World} {cells : Array Value} {v : Value} {l : List Int} (h : L1 W wr cells v l) (o : Obj) : L1 W (wr.alloc o) cells v l := h.ext ((Below.refl _ _).alloc (Nat.le_refl _) o)
theorem L1.app {W wr w1 : World} {cells : Array Value} {v v1 : Value} {l l1 : List Int} (h : L1 W wr cells v l) (ho : Kd.R (Kd.int .i64) 3 w1 W.heap.size (fun k => W.heap.size ≤ k) v1 l1) (hb : Below W.heap.size W w1) (hg : wr.grownBy w1 v.ownBlock) : L1 W w1 cells v1 l1 :=
  ⟨hb, blk_grown h.bx hg (Kd.R_ne h.row h.bx (by decide)), ho⟩
/-- the rows of the later loops -/
structure L2 (W wr : World) (n₀ : Nat) (c : Cv) (cnt : Nat) (ps : List S45) (ks : List Bool) (cells : Array Value) (v : Value) (l : List Int) : Prop where
  cv : IsCv wr n₀ c cnt ps ks
  kp : Kept W wr c.S
  bl : Below n₀ W wr
  bx : wr.heap[W.heap.size]? = some (.cells cells 35 (0, 0))
  row : Kd.R (Kd.int .i64) 3 wr W.heap.size (fun k => W.heap.size ≤ k) v l
  old : c.g < W.heap.size ∧ c.gp < W.heap.size ∧ c.gk < W.heap.size
section
variable {W wr w1 : World} {n₀ : Nat} {c : Cv} {cnt : Nat} {ps : List S45} {ks : List Bool} {cells : Array Value} {v : Value} {l : List Int}
theorem L1.two (h : L1 W wr cells v l) (hI : IsCv W n₀ c cnt ps ks) (hn : n₀ ≤ W.heap.size) : L2 W wr n₀ c cnt ps ks cells v l :=
  ⟨hI.ext h.bl, Kept.of_below h.bl _, h.bl.mono hn, h.bx, h.row, hI.lt⟩
theorem L2.ext (h : L2 W wr n₀ c cnt ps ks cells v l) (hb : Below wr.heap.size wr w1) (hn : n₀ ≤ W.heap.size) : L2 W w1 n₀ c cnt ps ks cells v l :=
  ⟨h.cv.ext hb, h.kp.below hb, below_then h.bl (Nat.le_trans hn h.kp.1) hb, blk_below h.bx hb, Kd.R_below h.row hb, h.old⟩
theorem L2.mark (h : L2 W wr n₀ c cnt ps ks cells v l) (i : Nat) (hi : i < c.n) (b : Bool) : L2 W (wr.setCell ⟨c.gk, i, none⟩ (.bool b)) n₀ c cnt ps (ks.set i b) cells v l :=
  ⟨h.cv.setMark i hi b, h.kp.setCell (p := ⟨c.gk, i, none⟩) (.inl (.inr (.inr rfl))) _, h.bl.setCell (p := ⟨c.gk, i, none⟩) h.cv.gkge _, blk_far h.bx (p := ⟨c.gk, i, none⟩) (by have := h.old.2.2; show W.heap.size ≠ c.gk; omega) _,
    Kd.R_far h.row (p := ⟨c.gk, i, none⟩) (fun k hk => by have := h.old.2.2; show k ≠ c.gk; omega) _, h.old⟩
theorem setCells4 (w : World) (g o : Nat) (a b c d : Value) : w.setCells g o [a, b, c, d] = (((w.setCell ⟨g, o, none⟩ a).setCell ⟨g, o + 1, none⟩ b).setCell ⟨g, o + 2, none⟩ c).setCell ⟨g, o + 3, none⟩ d := rfl
/-- a pixel is laid -/
theorem IsCv.setPix (h : IsCv wr n₀ c cnt ps ks) (i : Nat) (hi : i < c.n) (x : S45) :
    IsCv ((((wr.setCell ⟨c.gp, i * 4, none⟩ (.int .u16 x.f0)).setCell ⟨c.gp, i * 4 + 1, none⟩ (.int .u16 x.f1)).setCell ⟨c.gp, i * 4 + 2, none⟩ (.int .u16 x.f2)).setCell ⟨c.gp, i * 4 + 3, none⟩ (.int .u16 x.f3)) n₀ c cnt (ps.set i x) ks := by
  obtain ⟨n1, n2, n3⟩ := h.ne
  obtain ⟨cs, hl, hM, hc, hf⟩ := Kd.R_elem h.pix z45 (i : Int) (by omega) (by omega)
  have e4 : k45.sz = 4 := rfl
  rw [e4] at hc
  simp only [Int.toNat_natCast] at hM hc
  obtain rfl := k45_openM hM
  have h2 := Kd.R_seg (okp := fun k => False) h.pix (i : Int) (by omega) (by omega) (c := [.int .u16 (ps.getD i z45).f0, .int .u16 (ps.getD i z45).f1, .int .u16 (ps.getD i z45).f2, .int .u16 (ps.getD i z45).f3]) (seg := [.int .u16 x.f0, .int .u16 x.f1, .int .u16 x.f2, .int .u16 x.f3]) (j := 0) rfl (by rw [e4]; exact hc) (by rw [e4]; exact Nat.le_refl _) (x' := x) (k45_mkM _ _ _ _) (fun k hk => hk.elim)
  have h3 := h2.1
  rw [e4] at h3
  simp only [Int.toNat_natCast, Nat.add_zero] at h3
  rw [← setCells4]
  refine ⟨?_, h3, ?_, h.ge, h.sz⟩
  · rw [setCells4]
    exact blk_far (blk_far (blk_far (blk_far h.blk (p := ⟨c.gp, _, none⟩) (fun e => n1 e.symm) _) (p := ⟨c.gp, _, none⟩) (fun e => n1 e.symm) _) (p := ⟨c.gp, _, none⟩) (fun e => n1 e.symm) _) (p := ⟨c.gp, _, none⟩) (fun e => n1 e.symm) _
  · rw [setCells4]
    have hne : ∀ j k, k = c.gk → k ≠ (⟨c.gp, j, none⟩ : Addr).block := fun j k e => by rw [e]; exact n3
    exact Kd.R_far (Kd.R_far (Kd.R_far (Kd.R_far h.kn (hne _) _) (hne _) _) (hne _) _) (hne _) _
theorem L2.pix (h : L2 W wr n₀ c cnt ps ks cells v l) (i : Nat) (hi : i < c.n) (x : S45) :
    L2 W ((((wr.setCell ⟨c.gp, i * 4, none⟩ (.int .u16 x.f0)).setCell ⟨c.gp, i * 4 + 1, none⟩ (.int .u16 x.f1)).setCell ⟨c.gp, i * 4 + 2, none⟩ (.int .u16 x.f2)).setCell ⟨c.gp, i * 4 + 3, none⟩ (.int .u16 x.f3)) n₀ c cnt (ps.set i x) ks cells v l := by
  have hge := h.cv.gpge
  have hlt := h.old.2.1
  have hI := h.cv.setPix i hi x
  rw [← setCells4] at hI ⊢
  have e := fun k (hk : k ≠ c.gp) => setCells_far (g := c.gp) [.int .u16 x.f0, .int .u16 x.f1, .int .u16 x.f2, .int .u16 x.f3] (i * 4) (w := wr) k hk
  obtain ⟨s1, s2, s3, s4⟩ := setCells_same c.gp [.int .u16 x.f0, .int .u16 x.f1, .int .u16 x.f2, .int .u16 x.f3] (i * 4) wr
  exact ⟨hI, h.kp.then_ (S2 := fun k => k = c.gp) ⟨Nat.le_of_eq s4.symm, fun k _ hk => e k hk⟩ (fun k hk => .inl (.inr (.inl hk))), h.bl.trans ⟨s1, s2, s3, Nat.le_of_eq s4.symm, fun k hk => e k (by omega)⟩, (e _ (by omega)).trans h.bx,
    Kd.R_step h.row (fun k hk _ => e k (by omega)), h.old⟩
theorem L2.count (h : L2 W wr n₀ c cnt ps ks cells v l) (k : Nat) : L2 W (wr.setCell ⟨c.g, 2, none⟩ (.int .i64 k)) n₀ c k ps ks cells v l := by
  obtain ⟨n1, n2, n3⟩ := h.cv.ne
  have hlt := h.old.1
  refine ⟨⟨?_, Kd.R_far h.cv.pix (p := ⟨c.g, 2, none⟩) (fun k e => by rw [e]; exact n1) _, Kd.R_far h.cv.kn (p := ⟨c.g, 2, none⟩) (fun k e => by rw [e]; exact n2) _, h.cv.ge, h.cv.sz⟩, h.kp.setCell (p := ⟨c.g, 2, none⟩) (.inl (.inl rfl)) _, h.bl.setCell (p := ⟨c.g, 2, none⟩) h.cv.ge _,
    blk_far h.bx (p := ⟨c.g, 2, none⟩) (by show W.heap.size ≠ c.g; omega) _, Kd.R_far h.row (p := ⟨c.g, 2, none⟩) (fun k hk => by show k ≠ c.g; omega) _, h.old⟩
  have h1 := blk_set h.cv.blk 2 (.int .i64 k)
  simpa using h1
end
/-- what Lay leaves -/
def LayP (W : World) (n₀ : Nat) (c : Cv) (P : Int × Nat × List S45 × List Bool) (e : Ending) (W' : World) : Prop :=
  e = .returned (.int .i64 P.1) ∧ IsCv W' n₀ c P.2.1 P.2.2.1 P.2.2.2 ∧ Kept W W' c.S ∧ Below n₀ W W'
end Go.Proofs.Ytmeafgoifekffaa.Lib
