/- the document's canvas: its block and its rows; New, on, Count, low: walked by hand. -/
import Derived.Test.YtmeafgoifekffaaV10
namespace Go.Proofs.Ytmeafgoifekffaa.Lib
open Go.RowKit Go.Shelf Go.Proofs.YtmeafgoifekffaaW.PrintWords Go.Proofs.YtmeafgoifekffaaW.PrintLast Go.Proofs.YtmeafgoifekffaaW.PrintMore
attribute [local go_sem] max2_mx min2_mn max_two min_two
set_option linter.unusedVariables false
set_option linter.unusedSimpArgs false
/-- the document's canvas -/
structure IsRc (W : World) (n₀ : Nat) (c : Cv) (ps : List S45) (ks : List Bool) : Prop where
  blk : W.heap[c.g]? = some (.cells #[.int .i64 c.x, .int .i64 c.y, .slice (some ⟨c.gp, 0, none⟩) c.n c.cp, .slice (some ⟨c.gk, 0, none⟩) c.n c.ck] 67 (0, 0))
  pix : Kd.R k45 45 W n₀ (fun k => k = c.gp) (.slice (some ⟨c.gp, 0, none⟩) c.n c.cp) ps
  kn : Kd.R Kd.bool 4 W n₀ (fun k => k = c.gk) (.slice (some ⟨c.gk, 0, none⟩) c.n c.ck) ks
  ge : n₀ ≤ c.g
  sz : 1 ≤ c.x ∧ c.x ≤ 2048 ∧ 1 ≤ c.y ∧ c.y ≤ 2048 ∧ c.n ≤ 65536
section
variable {W W1 : World} {n₀ : Nat} {c : Cv} {ps : List S45} {ks : List Bool}
theorem IsRc.lp (h : IsRc W n₀ c ps ks) : c.n = ps.length := (Kd.R_reads' h.pix).1
theorem IsRc.lk (h : IsRc W n₀ c ps ks) : c.n = ks.length := (Kd.R_reads' h.kn).1
theorem IsRc.gpge (h : IsRc W n₀ c ps ks) : n₀ ≤ c.gp := Kd.R_base h.pix c.gp rfl
theorem IsRc.gkge (h : IsRc W n₀ c ps ks) : n₀ ≤ c.gk := Kd.R_base h.kn c.gk rfl
theorem IsRc.bp (h : IsRc W n₀ c ps ks) : ∃ cells, W.heap[c.gp]? = some (.cells cells 45 (0, 0)) := Kd.R_typed h.pix c.gp rfl
theorem IsRc.bk (h : IsRc W n₀ c ps ks) : ∃ cells, W.heap[c.gk]? = some (.cells cells 4 (0, 0)) := Kd.R_typed h.kn c.gk rfl
theorem IsRc.ne (h : IsRc W n₀ c ps ks) : c.gp ≠ c.g ∧ c.gk ≠ c.g ∧ c.gk ≠ c.gp := by
  obtain ⟨a, ha⟩ := h.bp
  obtain ⟨b, hb⟩ := h.bk
  exact ⟨blk_ne ha h.blk (by decide), blk_ne hb h.blk (by decide), blk_ne hb ha (by decide)⟩
theorem IsRc.ext (h : IsRc W n₀ c ps ks) (hb : Below W.heap.size W W1) : IsRc W1 n₀ c ps ks :=
  ⟨blk_below h.blk hb, Kd.R_below h.pix hb, Kd.R_below h.kn hb, h.ge, h.sz⟩
theorem IsRc.drewN (h : IsRc W n₀ c ps ks) (m : Nat) : IsRc (W.drewN m) n₀ c ps ks := h.ext (pw_below_drewN (Below.refl _ _) m)
theorem IsRc.alloc (h : IsRc W n₀ c ps ks) (o : Obj) : IsRc (W.alloc o) n₀ c ps ks := h.ext ((Below.refl _ _).alloc (Nat.le_refl _) o)
theorem IsRc.kept {S : Nat → Prop} (h : IsRc W n₀ c ps ks) (hk : Kept W W1 S) (hS : ∀ k, c.S k → ¬ S k) : IsRc W1 n₀ c ps ks :=
  ⟨blk_kept h.blk hk (hS _ (.inl rfl)), Kd.R_kept h.pix hk (fun k e => hS k (.inr (.inl e))), Kd.R_kept h.kn hk (fun k e => hS k (.inr (.inr e))), h.ge, h.sz⟩
theorem IsRc.low {n₁ : Nat} (h : IsRc W n₀ c ps ks) (hn : n₁ ≤ n₀) : IsRc W n₁ c ps ks := ⟨h.blk, Kd.R_lower h.pix hn, Kd.R_lower h.kn hn, Nat.le_trans hn h.ge, h.sz⟩
theorem IsRc.lt (h : IsRc W n₀ c ps ks) : c.g < W.heap.size ∧ c.gp < W.heap.size ∧ c.gk < W.heap.size := by
  obtain ⟨a, ha⟩ := h.bp
  obtain ⟨b, hb⟩ := h.bk
  exact ⟨blk_lt h.blk, blk_lt ha, blk_lt hb⟩
/-- the cells of a pixel -/
theorem IsRc.pixel (h : IsRc W n₀ c ps ks) (i : Nat) (hi : i < c.n) : (W.cell? ⟨c.gp, i * 4, none⟩ = some (.int .u16 (ps.getD i z45).f0) ∧ W.cell? ⟨c.gp, i * 4 + 1, none⟩ = some (.int .u16 (ps.getD i z45).f1) ∧ W.cell? ⟨c.gp, i * 4 + 2, none⟩ = some (.int .u16 (ps.getD i z45).f2) ∧ W.cell? ⟨c.gp, i * 4 + 3, none⟩ = some (.int .u16 (ps.getD i z45).f3)) ∧ ∀ j, W.frozen? ⟨c.gp, i * 4 + j, none⟩ = false := by
  obtain ⟨cs, hl, hM, hc, hf⟩ := Kd.R_elem h.pix z45 (i : Int) (by omega) (by omega)
  have e4 : k45.sz = 4 := rfl
  rw [e4] at hc hf
  simp only [Int.toNat_natCast] at hM hc hf
  obtain rfl := k45_openM hM
  exact ⟨⟨by simpa using hc 0 _ rfl, by simpa using hc 1 _ rfl, by simpa using hc 2 _ rfl, by simpa using hc 3 _ rfl⟩, hf⟩
theorem IsRc.mark (h : IsRc W n₀ c ps ks) (i : Nat) (hi : i < c.n) : W.cell? ⟨c.gk, i, none⟩ = some (.bool (ks.getD i false)) ∧ W.frozen? ⟨c.gk, i, none⟩ = false := by
  obtain ⟨cs, hl, hM, hc, hf⟩ := Kd.R_elem h.kn false (i : Int) (by omega) (by omega)
  have e4 : (Kd.bool).sz = 1 := rfl
  rw [e4] at hc hf
  simp only [Int.toNat_natCast] at hM hc hf
  have e : cs = [.bool (ks.getD i false)] := hM
  subst e
  exact ⟨by simpa using hc 0 _ rfl, by simpa using hf 0⟩
/-- a mark is set -/
theorem IsRc.setMark (h : IsRc W n₀ c ps ks) (i : Nat) (hi : i < c.n) (b : Bool) : IsRc (W.setCell ⟨c.gk, i, none⟩ (.bool b)) n₀ c ps (ks.set i b) := by
  obtain ⟨n1, n2, n3⟩ := h.ne
  obtain ⟨cs, hl, hM, hc, hf⟩ := Kd.R_elem h.kn false (i : Int) (by omega) (by omega)
  have e4 : (Kd.bool).sz = 1 := rfl
  rw [e4] at hc
  simp only [Int.toNat_natCast] at hM
  have e : cs = [.bool (ks.getD i false)] := hM
  subst e
  have h2 := Kd.R_seg (okp := fun k => False) h.kn (i : Int) (by omega) (by omega) (c := [.bool (ks.getD i false)]) (seg := [.bool b]) (j := 0) rfl (by rw [e4]; exact hc) (by rw [e4]; exact Nat.le_refl _) (x' := b) rfl (fun k hk => hk.elim)
  have h3 := h2.1
  rw [e4] at h3
  simp only [Int.toNat_natCast, Nat.mul_one, Nat.add_zero] at h3
  exact ⟨blk_far h.blk (p := ⟨c.gk, i, none⟩) (fun e => n2 e.symm) _, Kd.R_far h.pix (p := ⟨c.gk, i, none⟩) (fun k e => by rw [e]; exact fun e => n3 e.symm) _, by simpa [World.setCells] using h3, h.ge, h.sz⟩
end
section
variable {wr w1 : World} {n₀ : Nat} {c : Cv} {ps : List S45} {ks : List Bool}
/-- a pixel is laid -/
theorem IsRc.setPix (h : IsRc wr n₀ c ps ks) (i : Nat) (hi : i < c.n) (x : S45) :
    IsRc ((((wr.setCell ⟨c.gp, i * 4, none⟩ (.int .u16 x.f0)).setCell ⟨c.gp, i * 4 + 1, none⟩ (.int .u16 x.f1)).setCell ⟨c.gp, i * 4 + 2, none⟩ (.int .u16 x.f2)).setCell ⟨c.gp, i * 4 + 3, none⟩ (.int .u16 x.f3)) n₀ c (ps.set i x) ks := by
  obtain ⟨n1, n2, n3⟩ := h.ne
  obtain ⟨cs, hl, hM, hc, hf⟩ := Kd.R_elem h.pix z45 (i : Int) (by omega) (by omega)
  have e4 : k45.sz = 4 := rfl
  rw [e4] at hc
  simp only [Int.toNat_natCast] at hM hc
  obtain rfl := k45_openM hM
  have h2 := Kd.R_seg (okp := fun k => False) h.pix (i : Int) (by omega) (by omega) (c := [.int .u16 (ps.getD i z45).f0, .int .u16 (ps.getD i z45).f1, .int .u16 (ps.getD i z45).f2, .int .u16 (ps.getD i z45).f3]) (seg := [.int .u16 x.f0, .int .u16 x.f1, .int .u16 x.f2, .int .u16 x.f3]) (j := 0) rfl (by rw [e4]; exact hc) (by rw [e4]; exact Nat.le_refl _) (x' := x) (k45_mkM _ _ _ _) (fun k hk => hk.elim)
  have h3 := h2.1
  rw [e4] at h3
  simp only [Int.toNat_natCast, Nat.add_zero] at h3
  rw [← setCells4]
  refine ⟨?_, h3, ?_, h.ge, h.sz⟩
  · rw [setCells4]
    exact blk_far (blk_far (blk_far (blk_far h.blk (p := ⟨c.gp, _, none⟩) (fun e => n1 e.symm) _) (p := ⟨c.gp, _, none⟩) (fun e => n1 e.symm) _) (p := ⟨c.gp, _, none⟩) (fun e => n1 e.symm) _) (p := ⟨c.gp, _, none⟩) (fun e => n1 e.symm) _
  · rw [setCells4]
    have hne : ∀ j k, k = c.gk → k ≠ (⟨c.gp, j, none⟩ : Addr).block := fun j k e => by rw [e]; exact n3
    exact Kd.R_far (Kd.R_far (Kd.R_far (Kd.R_far h.kn (hne _) _) (hne _) _) (hne _) _) (hne _) _
end
set_option maxRecDepth 100000 in
theorem on_walk {W : World} {n₀ : Nat} {c : Cv} {ps : List S45} {ks : List Bool} (h : IsRc W n₀ c ps ks) (a b : Int) {r : Bool} (hr : decide (0 ≤ a ∧ a < c.x ∧ 0 ≤ b ∧ b < c.y) = r) :
    Calls Try.prog 27 #[.pointer (some ⟨c.g, 0, none⟩), .int .i64 a, .int .i64 b] W fun e w' => e = .returned (.bool r) ∧ W = w' := by
  have hc0 := blk_cell h.blk 0
  have hc1 := blk_cell h.blk 1
  obtain ⟨s1, s2, s3, s4, s5⟩ := h.sz
  have HR := Aside0.mk hr
  clear hr h
  by_cases i1 : 0 ≤ a
  · have d1 : decide (0 ≤ a) = true := decide_eq_true i1
    by_cases i2 : a < c.x
    · have d2 : decide (a < (c.x : Int)) = true := decide_eq_true i2
      by_cases i3 : 0 ≤ b
      · have d3 : decide (0 ≤ b) = true := decide_eq_true i3
        by_cases i4 : b < c.y
        · have d4 : decide (b < (c.y : Int)) = true := decide_eq_true i4
          obtain rfl : r = true := by rw [← HR.out]; exact decide_eq_true ⟨i1, i2, i3, i4⟩
          go_enter Try.func27, Try.ntmps27
          go_wp2
          go_ret
          exact ⟨rfl, rfl⟩
        · have d4 : decide (b < (c.y : Int)) = false := decide_eq_false i4
          obtain rfl : r = false := by rw [← HR.out]; exact decide_eq_false (fun h => i4 h.2.2.2)
          go_enter Try.func27, Try.ntmps27
          go_wp2
          go_ret
          exact ⟨rfl, rfl⟩
      · have d3 : decide (0 ≤ b) = false := decide_eq_false i3
        obtain rfl : r = false := by rw [← HR.out]; exact decide_eq_false (fun h => i3 h.2.2.1)
        go_enter Try.func27, Try.ntmps27
        go_wp2
        go_ret
        exact ⟨rfl, rfl⟩
    · have d2 : decide (a < (c.x : Int)) = false := decide_eq_false i2
      obtain rfl : r = false := by rw [← HR.out]; exact decide_eq_false (fun h => i2 h.2.1)
      go_enter Try.func27, Try.ntmps27
      go_wp2
      go_ret
      exact ⟨rfl, rfl⟩
  · have d1 : decide (0 ≤ a) = false := decide_eq_false i1
    obtain rfl : r = false := by rw [← HR.out]; exact decide_eq_false (fun h => i1 h.1)
    go_enter Try.func27, Try.ntmps27
    go_wp2
    go_ret
    exact ⟨rfl, rfl⟩
theorem rc_made1 (W : World) (x y n : Nat) (hn : x * y = n) (hx : 1 ≤ x ∧ x ≤ 2048 ∧ 1 ≤ y ∧ y ≤ 2048 ∧ n ≤ 65536) :
    IsRc (((W.alloc (.cells (madeCells #[.int .u16 0, .int .u16 0, .int .u16 0, .int .u16 0] (n * 4)) 45)).alloc (.cells (madeCells #[.bool false] n) 4)).alloc (.cells #[.int .i64 x, .int .i64 y, .slice (some ⟨W.heap.size, 0, none⟩) n n, .slice (some ⟨W.heap.size + 1, 0, none⟩) n n] 67)) W.heap.size ⟨W.heap.size + 1 + 1, W.heap.size, W.heap.size + 1, n, n, x, y⟩ (List.replicate n z45) (List.replicate n false) := by
  obtain ⟨h1, h2, h3, h4, h5⟩ := hx
  have p1 := made45 n h5 W
  have p2 := made4 n h5 (W.alloc (.cells (madeCells #[.int .u16 0, .int .u16 0, .int .u16 0, .int .u16 0] (n * 4)) 45))
  have eN : (⟨W.heap.size + 1 + 1, W.heap.size, W.heap.size + 1, n, n, x, y⟩ : Cv).n = n := hn
  simp only [World.size_alloc] at p2
  refine ⟨?_, ?_, ?_, by simp; omega, by rw [eN]; exact ⟨h1, h2, h3, h4, h5⟩⟩
  · rw [eN]
    simpa using heap_alloc_new ((W.alloc (.cells (madeCells #[.int .u16 0, .int .u16 0, .int .u16 0, .int .u16 0] (n * 4)) 45)).alloc (.cells (madeCells #[.bool false] n) 4)) _
  · rw [eN]
    exact Kd.R_alloc (Kd.R_alloc p1 _) _
  · rw [eN]
    exact Kd.R_alloc (Kd.R_lower p2 (Nat.le_succ _)) _
theorem rc_made2 (W : World) (x y n : Nat) (hn : x * y = n) (hx : 1 ≤ x ∧ x ≤ 2048 ∧ 1 ≤ y ∧ y ≤ 2048 ∧ n ≤ 65536) :
    IsRc (((W.alloc (.cells (madeCells #[.bool false] n) 4)).alloc (.cells (madeCells #[.int .u16 0, .int .u16 0, .int .u16 0, .int .u16 0] (n * 4)) 45)).alloc (.cells #[.int .i64 x, .int .i64 y, .slice (some ⟨W.heap.size + 1, 0, none⟩) n n, .slice (some ⟨W.heap.size, 0, none⟩) n n] 67)) W.heap.size ⟨W.heap.size + 1 + 1, W.heap.size + 1, W.heap.size, n, n, x, y⟩ (List.replicate n z45) (List.replicate n false) := by
  obtain ⟨h1, h2, h3, h4, h5⟩ := hx
  have p1 := made4 n h5 W
  have p2 := made45 n h5 (W.alloc (.cells (madeCells #[.bool false] n) 4))
  have eN : (⟨W.heap.size + 1 + 1, W.heap.size + 1, W.heap.size, n, n, x, y⟩ : Cv).n = n := hn
  simp only [World.size_alloc] at p2
  refine ⟨?_, ?_, ?_, by simp; omega, by rw [eN]; exact ⟨h1, h2, h3, h4, h5⟩⟩
  · rw [eN]
    simpa using heap_alloc_new ((W.alloc (.cells (madeCells #[.bool false] n) 4)).alloc (.cells (madeCells #[.int .u16 0, .int .u16 0, .int .u16 0, .int .u16 0] (n * 4)) 45)) _
  · rw [eN]
    exact Kd.R_alloc (Kd.R_lower p2 (Nat.le_succ _)) _
  · rw [eN]
    exact Kd.R_alloc (Kd.R_alloc p1 _) _
set_option maxRecDepth 100000 in
theorem rnew_walk (n₀ : Nat) (x y : Nat) (W : World) (h : CvOk x y) (hn₀ : n₀ ≤ W.heap.size) :
    Calls Try.prog 10 #[.int .i64 x, .int .i64 y] W fun e w' => ∃ c : Cv, e = .returned (.tuple #[.pointer (some ⟨c.g, 0, none⟩), .int .i64 0]) ∧ c.x = x ∧ c.y = y ∧ IsRc w' W.heap.size c (List.replicate c.n z45) (List.replicate c.n false) ∧ Below W.heap.size W w' := by
  obtain ⟨h1, h2, h3, h4, h5⟩ := h
  obtain ⟨n, hn⟩ : ∃ n, x * y = n := ⟨_, rfl⟩
  have hni : (x : Int) * y = n := by rw [← hn]; push_cast; rfl
  have hw2 : (n : Int).toNat = n := by simp
  have hw : IntKind.i64.wrap (n : Int) = n := wrapI (by omega) (by omega)
  have hn1 : 1 ≤ n := by rw [← hn]; exact Nat.mul_pos (by omega) (by omega)
  have hn2 : n ≤ 65536 := by omega
  have d1 : decide ((n : Int) ≤ 65536) = true := decide_eq_true (by omega)
  have HN := Aside0.mk hn
  clear hn h5
  go_enter Try.func10, Try.ntmps10
  go_wp2
  have hk45 := make45 n hn2
  have hk4 := make4 n hn2
  go_region
  all_goals
    clear hk45 hk4
    go_wp2
    go_ret2
  · exact ⟨⟨W.heap.size + 1 + 1, W.heap.size, W.heap.size + 1, n, n, x, y⟩, rfl, rfl, rfl, HN.out ▸ (rc_made1 W x y _ rfl ⟨by omega, by omega, by omega, by omega, by rw [HN.out]; omega⟩).drewN 1, pw_below_drewN (below_alloc3 _ _ _ _) 1⟩
  · exact ⟨⟨W.heap.size + 1 + 1, W.heap.size + 1, W.heap.size, n, n, x, y⟩, rfl, rfl, rfl, HN.out ▸ (rc_made2 W x y _ rfl ⟨by omega, by omega, by omega, by omega, by rw [HN.out]; omega⟩).drewN 1, pw_below_drewN (below_alloc3 _ _ _ _) 1⟩
set_option maxRecDepth 100000 in
theorem rnew_bad (a b : Int) (W : World) (h : ¬ CvOk a b) :
    Calls Try.prog 10 #[.int .i64 a, .int .i64 b] W fun e w' => e = .returned (.tuple #[.pointer none, .int .i64 1]) ∧ W = w' := by
  by_cases i1 : 1 ≤ a
  · have d1 : decide (1 ≤ a) = true := decide_eq_true i1
    by_cases i2 : a ≤ 2048
    · have d2 : decide (a ≤ 2048) = true := decide_eq_true i2
      by_cases i3 : 1 ≤ b
      · have d3 : decide (1 ≤ b) = true := decide_eq_true i3
        by_cases i4 : b ≤ 2048
        · have d4 : decide (b ≤ 2048) = true := decide_eq_true i4
          have p1 : 0 ≤ a * b := Int.mul_nonneg (by omega) (by omega)
          have p2 : a * b ≤ 2048 * 2048 := Int.mul_le_mul i2 i4 (by omega) (by omega)
          have d5 : decide (a * b ≤ 65536) = false := decide_eq_false (fun h5 => h ⟨i1, i2, i3, i4, h5⟩)
          clear h
          go_enter Try.func10, Try.ntmps10
          go_wp2
          go_ret2
          exact ⟨rfl, rfl⟩
        · have d4 : decide (b ≤ 2048) = false := decide_eq_false i4
          clear h
          go_enter Try.func10, Try.ntmps10
          go_wp2
          go_ret2
          exact ⟨rfl, rfl⟩
      · have d3 : decide (1 ≤ b) = false := decide_eq_false i3
        clear h
        go_enter Try.func10, Try.ntmps10
        go_wp2
        go_ret2
        exact ⟨rfl, rfl⟩
    · have d2 : decide (a ≤ 2048) = false := decide_eq_false i2
      clear h
      go_enter Try.func10, Try.ntmps10
      go_wp2
      go_ret2
      exact ⟨rfl, rfl⟩
  · have d1 : decide (1 ≤ a) = false := decide_eq_false i1
    clear h
    go_enter Try.func10, Try.ntmps10
    go_wp2
    go_ret2
    exact ⟨rfl, rfl⟩
/-- how many are known -/
def cntL (ks : List Bool) : Nat := (ks.filter id).length
theorem cntL_le (ks : List Bool) : cntL ks ≤ ks.length := List.length_filter_le _ _
theorem cntL_snoc (ks : List Bool) (i : Nat) (hi : i < ks.length) : cntL (ks.take (i + 1)) = cntL (ks.take i) + if ks.getD i false = true then 1 else 0 := by
  unfold cntL
  rw [List.take_succ_eq_append_getElem hi, List.filter_append, List.length_append, List.getD_eq_getElem?_getD, List.getElem?_eq_getElem hi, Option.getD_some]
  cases ks[i] <;> rfl
set_option maxRecDepth 100000 in
theorem rcount_walk {W : World} {n₀ : Nat} {c : Cv} {ps : List S45} {ks : List Bool} (h : IsRc W n₀ c ps ks) :
    Calls Try.prog 33 #[.pointer (some ⟨c.g, 0, none⟩)] W fun e w' => e = .returned (.int .i64 (cntL ks : Nat)) ∧ W = w' := by
  have H := Aside0.mk h
  have hc3 := blk_cell h.blk 3
  have hs := h.sz.2.2.2.2
  have HLK := Aside0.mk h.lk
  obtain ⟨n, hn⟩ : ∃ n, c.n = n := ⟨_, rfl⟩
  have HN := Aside0.mk hn
  rw [hn] at hc3 hs
  clear h hn
  go_enter Try.func33, Try.ntmps33
  go_wp2
  go_loop [3, 11] (fun q i => ∃ k : Nat, k ≤ n ∧ i = .int .i64 k ∧ q = .int .i64 (cntL (ks.take k) : Nat)) (fun _ i => n - (intOf i).toNat)
  case atStart => exact ⟨0, Nat.zero_le _, rfl, rfl⟩
  case round =>
    obtain ⟨k, hk, rfl, rfl⟩ := hrel
    have hle : cntL (ks.take k) ≤ k := Nat.le_trans (cntL_le _) (by simp; omega)
    have hsn := cntL_snoc ks k
    have HSN := Aside0.mk hsn
    clear hsn
    obtain ⟨q, hq⟩ : ∃ q, cntL (ks.take k) = q := ⟨_, rfl⟩
    have HQ := Aside0.mk hq
    rw [hq] at hle
    rw [hq]
    clear hq
    by_cases hlt : k < n
    · obtain ⟨hm, _⟩ := H.out.mark k (by rw [HN.out]; exact hlt)
      cases hmk : ks.getD k false with
      | true =>
        rw [hmk] at hm
        have HMK := Aside0.mk hmk
        clear hmk
        go_wp2
        exact ⟨⟨k + 1, by omega, by push_cast; rfl, by rw [HSN.out (by rw [← HLK.out, HN.out]; exact hlt), HMK.out, HQ.out]; push_cast; rfl⟩, by simp [intOf]; omega⟩
      | false =>
        rw [hmk] at hm
        have HMK := Aside0.mk hmk
        clear hmk
        go_wp2
        exact ⟨⟨k + 1, by omega, by push_cast; rfl, by rw [HSN.out (by rw [← HLK.out, HN.out]; exact hlt), HMK.out, HQ.out]; rfl⟩, by simp [intOf]; omega⟩
    · obtain rfl : k = n := by omega
      go_wp2
      go_ret
      have e : ks.take k = ks := List.take_of_length_le (by rw [← HLK.out, HN.out]; exact Nat.le_refl _)
      exact ⟨by have h1 := HQ.out; rw [e] at h1; rw [h1]; rfl, rfl⟩
end Go.Proofs.Ytmeafgoifekffaa.Lib
