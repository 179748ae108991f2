/- canvas: its block and its rows; place, Count, Full, At: walked by hand. -/
import Derived.Test.YtmeafgoifekffaaF1
namespace Go.Proofs.Ytmeafgoifekffaa.Lib
open Go.RowKit Go.Proofs.YtmeafgoifekffaaW.PrintWords Go.Proofs.YtmeafgoifekffaaW.PrintLast Go.Proofs.YtmeafgoifekffaaW.PrintMore
set_option linter.unusedVariables false
set_option linter.unusedSimpArgs false
/-- where a canvas lies, and its sides -/
structure Cv where
  g : Nat
  gp : Nat
  gk : Nat
  cp : Nat
  ck : Nat
  x : Nat
  y : Nat
def Cv.n (c : Cv) : Nat := c.x * c.y
/-- its blocks -/
def Cv.S (c : Cv) : Nat → Prop := fun k => k = c.g ∨ k = c.gp ∨ k = c.gk
/-- a canvas: how many pixels are known, the pixels, which are known -/
structure IsCv (W : World) (n₀ : Nat) (c : Cv) (cnt : Nat) (ps : List S45) (ks : List Bool) : Prop where
  blk : W.heap[c.g]? = some (.cells #[.int .i64 c.x, .int .i64 c.y, .int .i64 cnt, .slice (some ⟨c.gp, 0, none⟩) c.n c.cp, .slice (some ⟨c.gk, 0, none⟩) c.n c.ck] 64 (0, 0))
  pix : Kd.R k45 45 W n₀ (fun k => k = c.gp) (.slice (some ⟨c.gp, 0, none⟩) c.n c.cp) ps
  kn : Kd.R Kd.bool 4 W n₀ (fun k => k = c.gk) (.slice (some ⟨c.gk, 0, none⟩) c.n c.ck) ks
  ge : n₀ ≤ c.g
  sz : 1 ≤ c.x ∧ c.x ≤ 2048 ∧ 1 ≤ c.y ∧ c.y ≤ 2048 ∧ c.n ≤ 65536
section
variable {W W1 : World} {n₀ : Nat} {c : Cv} {cnt : Nat} {ps : List S45} {ks : List Bool}
theorem IsCv.lp (h : IsCv W n₀ c cnt ps ks) : c.n = ps.length := (Kd.R_reads' h.pix).1
theorem IsCv.lk (h : IsCv W n₀ c cnt ps ks) : c.n = ks.length := (Kd.R_reads' h.kn).1
theorem IsCv.gpge (h : IsCv W n₀ c cnt ps ks) : n₀ ≤ c.gp := Kd.R_base h.pix c.gp rfl
theorem IsCv.gkge (h : IsCv W n₀ c cnt ps ks) : n₀ ≤ c.gk := Kd.R_base h.kn c.gk rfl
theorem IsCv.bp (h : IsCv W n₀ c cnt ps ks) : ∃ cells, W.heap[c.gp]? = some (.cells cells 45 (0, 0)) := Kd.R_typed h.pix c.gp rfl
theorem IsCv.bk (h : IsCv W n₀ c cnt ps ks) : ∃ cells, W.heap[c.gk]? = some (.cells cells 4 (0, 0)) := Kd.R_typed h.kn c.gk rfl
theorem IsCv.ne (h : IsCv W n₀ c cnt ps ks) : c.gp ≠ c.g ∧ c.gk ≠ c.g ∧ c.gk ≠ c.gp := by
  obtain ⟨a, ha⟩ := h.bp
  obtain ⟨b, hb⟩ := h.bk
  exact ⟨blk_ne ha h.blk (by decide), blk_ne hb h.blk (by decide), blk_ne hb ha (by decide)⟩
theorem IsCv.ext (h : IsCv W n₀ c cnt ps ks) (hb : Below W.heap.size W W1) : IsCv W1 n₀ c cnt ps ks :=
  ⟨blk_below h.blk hb, Kd.R_below h.pix hb, Kd.R_below h.kn hb, h.ge, h.sz⟩
theorem IsCv.drewN (h : IsCv W n₀ c cnt ps ks) (m : Nat) : IsCv (W.drewN m) n₀ c cnt ps ks := h.ext (pw_below_drewN (Below.refl _ _) m)
theorem IsCv.alloc (h : IsCv W n₀ c cnt ps ks) (o : Obj) : IsCv (W.alloc o) n₀ c cnt ps ks := h.ext ((Below.refl _ _).alloc (Nat.le_refl _) o)
theorem IsCv.kept {S : Nat → Prop} (h : IsCv W n₀ c cnt ps ks) (hk : Kept W W1 S) (hS : ∀ k, c.S k → ¬ S k) : IsCv W1 n₀ c cnt ps ks :=
  ⟨blk_kept h.blk hk (hS _ (.inl rfl)), Kd.R_kept h.pix hk (fun k e => hS k (.inr (.inl e))), Kd.R_kept h.kn hk (fun k e => hS k (.inr (.inr e))), h.ge, h.sz⟩
theorem IsCv.low {n₁ : Nat} (h : IsCv W n₀ c cnt ps ks) (hn : n₁ ≤ n₀) : IsCv W n₁ c cnt ps ks := ⟨h.blk, Kd.R_lower h.pix hn, Kd.R_lower h.kn hn, Nat.le_trans hn h.ge, h.sz⟩
theorem IsCv.lt (h : IsCv W n₀ c cnt ps ks) : c.g < W.heap.size ∧ c.gp < W.heap.size ∧ c.gk < W.heap.size := by
  obtain ⟨a, ha⟩ := h.bp
  obtain ⟨b, hb⟩ := h.bk
  exact ⟨blk_lt h.blk, blk_lt ha, blk_lt hb⟩
/-- the cells of a pixel -/
theorem IsCv.pixel (h : IsCv W n₀ c cnt ps ks) (i : Nat) (hi : i < c.n) : (W.cell? ⟨c.gp, i * 4, none⟩ = some (.int .u16 (ps.getD i z45).f0) ∧ W.cell? ⟨c.gp, i * 4 + 1, none⟩ = some (.int .u16 (ps.getD i z45).f1) ∧ W.cell? ⟨c.gp, i * 4 + 2, none⟩ = some (.int .u16 (ps.getD i z45).f2) ∧ W.cell? ⟨c.gp, i * 4 + 3, none⟩ = some (.int .u16 (ps.getD i z45).f3)) ∧ ∀ j, W.frozen? ⟨c.gp, i * 4 + j, none⟩ = false := by
  obtain ⟨cs, hl, hM, hc, hf⟩ := Kd.R_elem h.pix z45 (i : Int) (by omega) (by omega)
  have e4 : k45.sz = 4 := rfl
  rw [e4] at hc hf
  simp only [Int.toNat_natCast] at hM hc hf
  obtain rfl := k45_openM hM
  exact ⟨⟨by simpa using hc 0 _ rfl, by simpa using hc 1 _ rfl, by simpa using hc 2 _ rfl, by simpa using hc 3 _ rfl⟩, hf⟩
theorem IsCv.mark (h : IsCv W n₀ c cnt ps ks) (i : Nat) (hi : i < c.n) : W.cell? ⟨c.gk, i, none⟩ = some (.bool (ks.getD i false)) ∧ W.frozen? ⟨c.gk, i, none⟩ = false := by
  obtain ⟨cs, hl, hM, hc, hf⟩ := Kd.R_elem h.kn false (i : Int) (by omega) (by omega)
  have e4 : (Kd.bool).sz = 1 := rfl
  rw [e4] at hc hf
  simp only [Int.toNat_natCast] at hM hc hf
  have e : cs = [.bool (ks.getD i false)] := hM
  subst e
  exact ⟨by simpa using hc 0 _ rfl, by simpa using hf 0⟩
/-- a mark is set -/
theorem IsCv.setMark (h : IsCv W n₀ c cnt ps ks) (i : Nat) (hi : i < c.n) (b : Bool) : IsCv (W.setCell ⟨c.gk, i, none⟩ (.bool b)) n₀ c cnt ps (ks.set i b) := by
  obtain ⟨n1, n2, n3⟩ := h.ne
  obtain ⟨cs, hl, hM, hc, hf⟩ := Kd.R_elem h.kn false (i : Int) (by omega) (by omega)
  have e4 : (Kd.bool).sz = 1 := rfl
  rw [e4] at hc
  simp only [Int.toNat_natCast] at hM
  have e : cs = [.bool (ks.getD i false)] := hM
  subst e
  have h2 := Kd.R_seg (okp := fun k => False) h.kn (i : Int) (by omega) (by omega) (c := [.bool (ks.getD i false)]) (seg := [.bool b]) (j := 0) rfl (by rw [e4]; exact hc) (by rw [e4]; exact Nat.le_refl _) (x' := b) rfl (fun k hk => hk.elim)
  have h3 := h2.1
  rw [e4] at h3
  simp only [Int.toNat_natCast, Nat.mul_one, Nat.add_zero] at h3
  exact ⟨blk_far h.blk (p := ⟨c.gk, i, none⟩) (fun e => n2 e.symm) _, Kd.R_far h.pix (p := ⟨c.gk, i, none⟩) (fun k e => by rw [e]; exact fun e => n3 e.symm) _, by simpa [World.setCells] using h3, h.ge, h.sz⟩
end
/-- where a pixel stands; below 0: nowhere -/
def placeL (x y : Nat) (a b : Int) : Int := if 0 ≤ a ∧ a < x ∧ 0 ≤ b ∧ b < y then b * x + a else -1
theorem place_in {x y n : Nat} {a b : Int} (hn : x * y = n) (h : 0 ≤ a ∧ a < x ∧ 0 ≤ b ∧ b < y) : 0 ≤ b * x ∧ 0 ≤ b * x + a ∧ b * x + a < n := by
  obtain ⟨h1, h2, h3, h4⟩ := h
  have e1 : 0 ≤ b * x := Int.mul_nonneg h3 (by omega)
  have e2 : (b + 1) * x ≤ (y : Int) * x := Int.mul_le_mul_of_nonneg_right (by omega) (by omega)
  rw [Int.add_mul, Int.one_mul] at e2
  have e3 : (y : Int) * x = n := by rw [← hn, Int.mul_comm]; push_cast; rfl
  omega
set_option maxRecDepth 100000 in
theorem place_walk {W : World} {n₀ : Nat} {c : Cv} {cnt : Nat} {ps : List S45} {ks : List Bool} (h : IsCv W n₀ c cnt ps ks) (a b : Int) :
    Calls Try.prog 26 #[.pointer (some ⟨c.g, 0, none⟩), .int .i64 a, .int .i64 b] W fun e w' => e = .returned (.int .i64 (placeL c.x c.y a b)) ∧ W = w' := by
  have hc0 := blk_cell h.blk 0
  have hc1 := blk_cell h.blk 1
  have hf0 := blk_frozen h.blk 0
  obtain ⟨s1, s2, s3, s4, s5⟩ := h.sz
  by_cases hin : 0 ≤ a ∧ a < c.x ∧ 0 ≤ b ∧ b < c.y
  · obtain ⟨p1, p2, p3⟩ := place_in (x := c.x) (y := c.y) (n := c.n) rfl hin
    have HP := Aside0.mk (show placeL c.x c.y a b = b * c.x + a from if_pos hin)
    obtain ⟨i1, i2, i3, i4⟩ := hin
    have d1 : decide (a < 0) = false := decide_eq_false (by omega)
    have d2 : decide ((c.x : Int) ≤ a) = false := decide_eq_false (by omega)
    have d3 : decide (b < 0) = false := decide_eq_false (by omega)
    have d4 : decide ((c.y : Int) ≤ b) = false := decide_eq_false (by omega)
    clear h
    go_enter Try.func26, Try.ntmps26
    go_wp2
    go_ret
    exact ⟨by rw [HP.out]; rfl, rfl⟩
  · have HP := Aside0.mk (show placeL c.x c.y a b = -1 from if_neg hin)
    by_cases i1 : 0 ≤ a
    · have d1 : decide (a < 0) = false := decide_eq_false (by omega)
      by_cases i2 : a < c.x
      · have d2 : decide ((c.x : Int) ≤ a) = false := decide_eq_false (by omega)
        by_cases i3 : 0 ≤ b
        · have d3 : decide (b < 0) = false := decide_eq_false (by omega)
          have d4 : decide ((c.y : Int) ≤ b) = true := decide_eq_true (by omega)
          clear h hin
          go_enter Try.func26, Try.ntmps26
          go_wp2
          go_ret
          exact ⟨by rw [HP.out]; rfl, rfl⟩
        · have d3 : decide (b < 0) = true := decide_eq_true (by omega)
          clear h hin
          go_enter Try.func26, Try.ntmps26
          go_wp2
          go_ret
          exact ⟨by rw [HP.out]; rfl, rfl⟩
      · have d2 : decide ((c.x : Int) ≤ a) = true := decide_eq_true (by omega)
        clear h hin
        go_enter Try.func26, Try.ntmps26
        go_wp2
        go_ret
        exact ⟨by rw [HP.out]; rfl, rfl⟩
    · have d1 : decide (a < 0) = true := decide_eq_true (by omega)
      clear h hin
      go_enter Try.func26, Try.ntmps26
      go_wp2
      go_ret
      exact ⟨by rw [HP.out]; rfl, rfl⟩
set_option maxRecDepth 100000 in
theorem place_nil (a b : Int) (W : World) : Calls Try.prog 26 #[.pointer none, .int .i64 a, .int .i64 b] W fun e w' => e = .returned (.int .i64 (-1)) ∧ W = w' := by
  go_enter Try.func26, Try.ntmps26
  go_wp2
  go_ret
  exact ⟨rfl, rfl⟩
set_option maxRecDepth 100000 in
theorem count_walk {W : World} {n₀ : Nat} {c : Cv} {cnt : Nat} {ps : List S45} {ks : List Bool} (h : IsCv W n₀ c cnt ps ks) :
    Calls Try.prog 23 #[.pointer (some ⟨c.g, 0, none⟩)] W fun e w' => e = .returned (.int .i64 cnt) ∧ W = w' := by
  have hc := blk_cell h.blk 2
  clear h
  go_enter Try.func23, Try.ntmps23
  go_wp2
  go_ret
  exact ⟨rfl, rfl⟩
set_option maxRecDepth 100000 in
theorem count_nil (W : World) : Calls Try.prog 23 #[.pointer none] W fun e w' => e = .returned (.int .i64 0) ∧ W = w' := by
  go_enter Try.func23, Try.ntmps23
  go_wp2
  go_ret
  exact ⟨rfl, rfl⟩
set_option maxRecDepth 100000 in
theorem full_walk {W : World} {n₀ : Nat} {c : Cv} {cnt : Nat} {ps : List S45} {ks : List Bool} (h : IsCv W n₀ c cnt ps ks) :
    Calls Try.prog 19 #[.pointer (some ⟨c.g, 0, none⟩)] W fun e w' => e = .returned (.bool ((cnt : Int) == (c.n : Int))) ∧ Drawn0 W w' := by
  have hc := blk_cell h.blk 2
  have hc3 := blk_cell h.blk 3
  clear h
  go_enter Try.func19, Try.ntmps19
  go_wp2
  go_quiet (fail)
  go_wp2
  go_ret
  exact ⟨rfl, ⟨_, rfl⟩⟩
set_option maxRecDepth 100000 in
theorem full_nil (W : World) : Calls Try.prog 19 #[.pointer none] W fun e w' => e = .returned (.bool false) ∧ Drawn0 W w' := by
  go_enter Try.func19, Try.ntmps19
  go_wp2
  go_quiet (fail)
  go_wp2
  go_ret
  exact ⟨rfl, ⟨_, rfl⟩⟩
end Go.Proofs.Ytmeafgoifekffaa.Lib
