/- the document's sender: its block, its row; New, Base: walked by hand. -/
import Derived.Test.YtfmggodmhklfoaaA8
namespace Go.Proofs.Ytfmggodmhklfoaa.Lib
open Go.RowKit Go.Shelf Go.Proofs.YtfmggodmhklfoaaW.PrintWords Go.Proofs.YtfmggodmhklfoaaW.PrintLast Go.Proofs.YtfmggodmhklfoaaW.PrintMore
set_option linter.unusedVariables false
set_option linter.unusedSimpArgs false
attribute [local go_sem] max2_int min2_int max_two min_two
theorem info57 : (Try.prog.info? 57).map (fun i => (i.zero, i.size, i.bytes)) = some (some (.agg #[.bool false, .bool false, .bool false, .int .i64 0, .int .i64 0]), 5, 24) := by kernel_rfl
/-- the document's sender -/
structure IsRf (W : World) (n₀ g : Nat) (c : Cfg) (nw : Int) (vs : Value) (xs : List S57) : Prop where
  blk : W.heap[g]? = some (.cells #[vs, .int .i64 c.wd, .int .i64 c.fs, .int .i64 c.ms, .int .i64 nw] 50 (0, 0))
  ge : n₀ ≤ g
  row : Kd.Q k57 57 W n₀ (fun _ => True) vs xs
theorem k57_cells {W : World} {n₀ g o n cap : Nat} {xs : List S57} (h : Kd.Q k57 57 W n₀ (fun _ => True) (.slice (some ⟨g, o, none⟩) n cap) xs) (i : Nat) (hi : i < n) :
    (W.cell? ⟨g, o + i * 5, none⟩ = some (.bool (xs.getD i z57).f0) ∧ W.cell? ⟨g, o + i * 5 + 1, none⟩ = some (.bool (xs.getD i z57).f1) ∧ W.cell? ⟨g, o + i * 5 + 2, none⟩ = some (.bool (xs.getD i z57).f2) ∧ W.cell? ⟨g, o + i * 5 + 3, none⟩ = some (.int .i64 (xs.getD i z57).f3) ∧ W.cell? ⟨g, o + i * 5 + 4, none⟩ = some (.int .i64 (xs.getD i z57).f4)) ∧
    ∀ j, W.frozen? ⟨g, o + i * 5 + j, none⟩ = false := by
  obtain ⟨c, hl, hM, hc, hf⟩ := Kd.Q_elem h z57 (i : Int) (by omega) (by omega)
  have e4 : k57.sz = 5 := rfl
  rw [e4] at hc hf
  simp only [Int.toNat_natCast] at hM hc hf
  obtain rfl := k57_openM hM
  exact ⟨⟨by simpa using hc 0 _ rfl, by simpa using hc 1 _ rfl, by simpa using hc 2 _ rfl, by simpa using hc 3 _ rfl, by simpa using hc 4 _ rfl⟩, hf⟩
def S57.cells (x : S57) : List Value := [.bool x.f0, .bool x.f1, .bool x.f2, .int .i64 x.f3, .int .i64 x.f4]
theorem k57_set {W : World} {n₀ g o n cap : Nat} {xs : List S57} (h : Kd.Q k57 57 W n₀ (fun _ => True) (.slice (some ⟨g, o, none⟩) n cap) xs) (i : Nat) (hi : i < n) (j : Nat) (u : Value) (x' : S57) (hj : j < 5)
    (hx : (xs.getD i z57).cells.set j u = x'.cells) :
    Kd.Q k57 57 (W.setCell ⟨g, o + i * 5 + j, none⟩ u) n₀ (fun _ => True) (.slice (some ⟨g, o, none⟩) n cap) (xs.set i x') := by
  obtain ⟨c, hl, hM, hc, hf⟩ := Kd.Q_elem h z57 (i : Int) (by omega) (by omega)
  have e4 : k57.sz = 5 := rfl
  rw [e4] at hc
  simp only [Int.toNat_natCast] at hM hc
  obtain rfl := k57_openM hM
  have h2 := Kd.Q_seg (okp := fun k => k ≠ g) h (i : Int) (by omega) (by omega) (c := (xs.getD i z57).cells) (seg := [u]) (j := j) (by rw [e4]; rfl) (by rw [e4]; simpa [S57.cells] using hc) (by rw [e4]; simp; omega) (x' := x') (by
    have e : (xs.getD i z57).cells.take j ++ [u] ++ (xs.getD i z57).cells.drop (j + [u].length) = x'.cells := by
      rw [← hx]
      unfold S57.cells
      rcases j with _ | _ | _ | _ | _ | j
      · rfl
      · rfl
      · rfl
      · rfl
      · rfl
      · omega
    rw [e]
    exact k57_mkM _ _ _ _) (fun k hk => ⟨trivial, hk⟩)
  have h3 := h2.1
  rw [e4] at h3
  simpa [World.setCells] using h3
theorem IsRf.ext {W W1 : World} {n₀ g : Nat} {c : Cfg} {nw : Int} {vs : Value} {xs : List S57} (h : IsRf W n₀ g c nw vs xs) (hb : Below W.heap.size W W1) : IsRf W1 n₀ g c nw vs xs :=
  ⟨blk_below h.blk hb, h.ge, Kd.Q_below h.row hb⟩
theorem IsRf.drewN {W : World} {n₀ g : Nat} {c : Cfg} {nw : Int} {vs : Value} {xs : List S57} (h : IsRf W n₀ g c nw vs xs) (m : Nat) : IsRf (W.drewN m) n₀ g c nw vs xs := h.ext (pw_below_drewN (Below.refl _ _) m)
theorem IsRf.alloc {W : World} {n₀ g : Nat} {c : Cfg} {nw : Int} {vs : Value} {xs : List S57} (h : IsRf W n₀ g c nw vs xs) (o : Obj) : IsRf (W.alloc o) n₀ g c nw vs xs := h.ext ((Below.refl _ _).alloc (Nat.le_refl _) o)
theorem IsRf.ne {W : World} {n₀ g gb o n cap : Nat} {c : Cfg} {nw : Int} {xs : List S57} (h : IsRf W n₀ g c nw (.slice (some ⟨gb, o, none⟩) n cap) xs) : gb ≠ g := fun e => Kd.Q_ne h.row h.blk (by decide) (by rw [← e]; rfl)
theorem IsRf.set1 {W : World} {n₀ g gb o n cap : Nat} {c : Cfg} {nw : Int} {xs : List S57} (h : IsRf W n₀ g c nw (.slice (some ⟨gb, o, none⟩) n cap) xs) (i : Nat) (hi : i < n) (j : Nat) (u : Value) (x' : S57) (hj : j < 5) (hx : (xs.getD i z57).cells.set j u = x'.cells) :
    IsRf (W.setCell ⟨gb, o + i * 5 + j, none⟩ u) n₀ g c nw (.slice (some ⟨gb, o, none⟩) n cap) (xs.set i x') :=
  ⟨blk_far h.blk (p := ⟨gb, o + i * 5 + j, none⟩) (fun e => h.ne e.symm) u, h.ge, k57_set h.row i hi j u x' hj hx⟩
theorem IsRf.put4 {W : World} {n₀ g : Nat} {c : Cfg} {nw : Int} {vs : Value} {xs : List S57} (h : IsRf W n₀ g c nw vs xs) (b2 : Int) : IsRf (W.setCell ⟨g, 4, none⟩ (.int .i64 b2)) n₀ g c b2 vs xs :=
  ⟨blk_put h.blk 4 _ rfl, h.ge, Kd.Q_set h.row h.blk (by decide) 4 _⟩
theorem IsRf.lt {W : World} {n₀ g : Nat} {c : Cfg} {nw : Int} {vs : Value} {xs : List S57} (h : IsRf W n₀ g c nw vs xs) : n₀ < W.heap.size := Nat.lt_of_le_of_lt h.ge (blk_lt h.blk)
/-- where the row lies -/
theorem IsRf.place {W : World} {n₀ g : Nat} {c : Cfg} {nw : Int} {vs : Value} {xs : List S57} (h : IsRf W n₀ g c nw vs xs) : ∃ A cp, vs = .slice A xs.length cp ∧ xs.length ≤ cp ∧ (0 < xs.length → ∃ gb o, A = some ⟨gb, o, none⟩) := by
  obtain ⟨A, cp, e, hcp⟩ := Kd.Q_slice h.row
  refine ⟨A, cp, e, hcp, fun hp => ?_⟩
  subst e
  obtain ⟨gb, o, cap, e, _⟩ := Kd.Q_form h.row hp
  injection e with e1 _ _
  exact ⟨gb, o, e1⟩
set_option maxRecDepth 100000 in
theorem rnew_walk (n₀ : Nat) (n wd fs ms : Int) (w : World) (h : CfgOk n wd fs ms) (hn : n ≤ 300) (hn0 : n₀ ≤ w.heap.size) :
    Calls Try.prog 10 #[.int .i64 n, .int .i64 wd, .int .i64 fs, .int .i64 ms] w fun e w' => ∃ g vs, e = .returned (.tuple #[.pointer (some ⟨g, 0, none⟩), .int .i64 0]) ∧ IsRf w' n₀ g ⟨n, wd, fs, ms⟩ 0 vs (List.replicate n.toNat z57) ∧ Below w.heap.size w w' := by
  obtain ⟨h1, h2, h3, h4, h5, h6, h7⟩ := h
  have d1 : decide (n < 0) = false := decide_eq_false (by omega)
  have d2 : decide (1048577 < n) = false := decide_eq_false (by omega)
  have d3 : decide (wd < 1) = false := decide_eq_false (by omega)
  have d4 : decide (64 < wd) = false := decide_eq_false (by omega)
  have d5 : decide (fs < 1) = false := decide_eq_false (by omega)
  have d6 : decide (ms < fs) = false := decide_eq_false (by omega)
  have d7 : decide (65536 < ms) = false := decide_eq_false (by omega)
  go_enter Try.func10, Try.ntmps10
  go_wp2_with (first
    | ((with_reducible refine gate_dst (N := 38) rfl ?_); refine Kd.R_make k57 (w0 := w) w.heap.size 57 rfl rfl 48 (.tmp 37) (.tmp 37) rfl n rfl rfl Try.underlying48 (.agg #[.bool false, .bool false, .bool false, .int .i64 0, .int .i64 0]) 24 info57 rfl (by decide) (by decide) z57 (ok := fun _ => True) (okp := fun _ => True) (k57_mkM _ _ _ z57) (fun _ _ => trivial) trivial h1 (by omega) (Below.refl _ _) (Nat.le_refl _) ?_; intro v1 w1 ho1 hb1 hg1 hat1; clear hg1 hat1; obtain ⟨A1, c1, e1, hc1, hC1⟩ := Kd.R_reads ho1; subst e1; clear hC1))
  go_ret2
  refine ⟨_, .slice A1 (List.replicate n.toNat z57).length c1, rfl, ⟨by simpa using heap_alloc_new w1 _, Nat.le_trans hn0 hb1.size, ?_⟩, below_then hb1 hb1.size ((Below.refl _ _).alloc (Nat.le_refl _) _)⟩
  exact Kd.Q_below (Kd.Q_lower (Kd.Q_of_R ho1) hn0) ((Below.refl _ _).alloc (Nat.le_refl _) _)
end Go.Proofs.Ytfmggodmhklfoaa.Lib
