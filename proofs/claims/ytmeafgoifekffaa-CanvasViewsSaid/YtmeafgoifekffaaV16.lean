/- the document's view: low (as printed), what is seen, what its rounds keep. -/
import Derived.Test.YtmeafgoifekffaaA3
namespace Go.Proofs.Ytmeafgoifekffaa.Lib
open Go.RowKit Go.Shelf Go.Proofs.YtmeafgoifekffaaW.PrintWords Go.Proofs.YtmeafgoifekffaaW.PrintLast Go.Proofs.YtmeafgoifekffaaW.PrintMore
set_option linter.unusedVariables false
set_option linter.unusedSimpArgs false
/-! ### halftoneref19_low: function 29 -/
def halftoneref19_low.f (a0 : Int) (a1 : Int) : Option (Int) := if 0 ≤ (IntKind.u64.wrap (a1)) then (if (shl .i64 1 (IntKind.u64.wrap (a1))) = 0 then (none) else (some (wrap64 (a0 - (Int.tmod a0 (shl .i64 1 (IntKind.u64.wrap (a1)))))))) else (none)
set_option maxHeartbeats 8000000 in
set_option maxRecDepth 100000 in
theorem halftoneref19_low.calls (a0 : Int) (a1 : Int) (r : Int) (w : World) (h : halftoneref19_low.f a0 a1 = some r) :
    Calls Try.prog 29 #[.int .i64 a0, .int .i64 a1] w fun e w' => e = .returned (.int .i64 r) ∧ Drawn0 w w' := by
  have H : (if 0 ≤ (IntKind.u64.wrap (a1)) then (if (shl .i64 1 (IntKind.u64.wrap (a1))) = 0 then (none) else (some (wrap64 (a0 - (Int.tmod a0 (shl .i64 1 (IntKind.u64.wrap (a1)))))))) else (none)) = some r := h
  clear h
  obtain ⟨ji3, hji3⟩ : ∃ j_ : Int, (IntKind.u64.wrap (a1)) = j_ := ⟨_, rfl⟩
  replace H : (if 0 ≤ (ji3) then (if (shl .i64 1 (ji3)) = 0 then (none) else (some (wrap64 (a0 - (Int.tmod a0 (shl .i64 1 (ji3))))))) else (none)) = some r := by first | (rw [hji3] at H; exact H) | (simp only [hji3] at H ⊢; exact H)
  by_cases c4 : 0 ≤ (ji3)
  · rw [if_pos c4] at H
    have c4b0 := eq_true c4
    have c4b1 : decide (0 ≤ (ji3)) = true := decide_eq_true c4
    clear c4
    obtain ⟨ji5, hji5⟩ : ∃ j_ : Int, (shl .i64 1 (ji3)) = j_ := ⟨_, rfl⟩
    replace H : (if (ji5) = 0 then (none) else (some (wrap64 (a0 - (Int.tmod a0 (ji5)))))) = some r := by first | (rw [hji5] at H; exact H) | (simp only [hji5] at H ⊢; exact H)
    have hji5_ : (IntKind.i64.wrap (1 * 2 ^ min (ji3).toNat 64)) = ji5 := hji5
    have hji5z : (ji3) ≤ 64 → (IntKind.i64.wrap (1 * 2 ^ (ji3).toNat)) = ji5 := shl_small hji5
    have hji5u : (IntKind.i64.wrap (2 ^ min (ji3).toNat 64)) = ji5 := by have h_ := hji5_; rw [Int.one_mul] at h_; exact h_
    have hji5v : (ji3) ≤ 64 → (IntKind.i64.wrap (2 ^ (ji3).toNat)) = ji5 := fun hle_ => by have h_ := hji5z hle_; rw [Int.one_mul] at h_; exact h_
    have hji5y : (wrap64 (1 * 2 ^ min (ji3).toNat 64)) = ji5 := (i64_w _).symm.trans hji5_
    have hji5x : (ji3) ≤ 64 → (wrap64 (1 * 2 ^ (ji3).toNat)) = ji5 := fun h_ => (i64_w _).symm.trans (hji5z h_)
    by_cases c6 : (ji5) = 0
    · rw [if_pos c6] at H
      exact absurd H (by simp)
    · rw [if_neg c6] at H
      have c6b0 : ((ji5) == 0) = false := beq_eq_false_iff_ne.mpr c6
      have c6b1 : ((ji5) != 0) = true := bne_iff_ne.mpr c6
      obtain rfl := Option.some.inj H
      go_enter Try.func29, Try.ntmps29
      go_wp2
      go_ret
      exact ⟨by first | rfl | (simp; done) | (simp only [← hji3, ← hji5] <;> (first | rfl | simp)) | (simp [*]; done), by repeat (first | exact Drawn0.refl _ | apply Drawn0.step)⟩
  · rw [if_neg c4] at H
    exact absurd H (by simp)
theorem low_f (v n : Nat) (hv : v ≤ 2048) (hn : n ≤ 3) : halftoneref19_low.f (v : Int) (n : Int) = some ((lowN v n : Nat) : Int) := by
  rcases (by omega : n = 0 ∨ n = 1 ∨ n = 2 ∨ n = 3) with rfl | rfl | rfl | rfl
  · have e1 : IntKind.u64.wrap ((0 : Nat) : Int) = 0 := by decide
    have e2 : shl .i64 1 0 = 1 := by decide
    have e3 : Int.tmod (v : Int) 1 = ((v % 1 : Nat) : Int) := rfl
    have e4 : lowN v 0 = v / 1 * 1 := rfl
    unfold halftoneref19_low.f
    rw [e1, if_pos (by decide), e2, if_neg (by decide), e3, wrap64_in' (by omega) (by omega), e4]
    congr 1
    omega
  · have e1 : IntKind.u64.wrap ((1 : Nat) : Int) = 1 := by decide
    have e2 : shl .i64 1 1 = 2 := by decide
    have e3 : Int.tmod (v : Int) 2 = ((v % 2 : Nat) : Int) := rfl
    have e4 : lowN v 1 = v / 2 * 2 := rfl
    unfold halftoneref19_low.f
    rw [e1, if_pos (by decide), e2, if_neg (by decide), e3, wrap64_in' (by omega) (by omega), e4]
    congr 1
    omega
  · have e1 : IntKind.u64.wrap ((2 : Nat) : Int) = 2 := by decide
    have e2 : shl .i64 1 2 = 4 := by decide
    have e3 : Int.tmod (v : Int) 4 = ((v % 4 : Nat) : Int) := rfl
    have e4 : lowN v 2 = v / 4 * 4 := rfl
    unfold halftoneref19_low.f
    rw [e1, if_pos (by decide), e2, if_neg (by decide), e3, wrap64_in' (by omega) (by omega), e4]
    congr 1
    omega
  · have e1 : IntKind.u64.wrap ((3 : Nat) : Int) = 3 := by decide
    have e2 : shl .i64 1 3 = 8 := by decide
    have e3 : Int.tmod (v : Int) 8 = ((v % 8 : Nat) : Int) := rfl
    have e4 : lowN v 3 = v / 8 * 8 := rfl
    unfold halftoneref19_low.f
    rw [e1, if_pos (by decide), e2, if_neg (by decide), e3, wrap64_in' (by omega) (by omega), e4]
    congr 1
    omega
theorem low_walk (v n : Nat) (hv : v ≤ 2048) (hn : n ≤ 3) {r : Nat} (hr : lowN v n = r) (w : World) : Calls Try.prog 29 #[.int .i64 v, .int .i64 n] w fun e w' => e = .returned (.int .i64 r) ∧ Drawn0 w w' := by
  subst hr
  exact halftoneref19_low.calls _ _ _ w (low_f v n hv hn)
/-! what is seen -/
def waysL : Bool → List (Nat × Nat)
  | true => [(0, 0), (0, 1), (0, 2), (0, 3)]
  | false => [(0, 0), (1, 0), (1, 1), (2, 1), (2, 2), (3, 2), (3, 3)]
def waysC : Bool → Array Value
  | true => #[.int .i64 0, .int .i64 0, .int .i64 0, .int .i64 1, .int .i64 0, .int .i64 2, .int .i64 0, .int .i64 3]
  | false => #[.int .i64 0, .int .i64 0, .int .i64 1, .int .i64 0, .int .i64 1, .int .i64 1, .int .i64 2, .int .i64 1, .int .i64 2, .int .i64 2, .int .i64 3, .int .i64 2, .int .i64 3, .int .i64 3]
theorem ways_cell {wv : Bool} {W : World} {g i : Nat} (h : W.heap[g]? = some (.cells (waysC wv) 73 (0, 0))) (hi : i < (waysL wv).length) : W.cell? ⟨g, i * 2, none⟩ = some (.int .i64 (((waysL wv).getD i (0, 0)).1 : Nat)) ∧ W.cell? ⟨g, i * 2 + 1, none⟩ = some (.int .i64 (((waysL wv).getD i (0, 0)).2 : Nat)) := by
  rw [blk_cell h, blk_cell h]
  cases wv with
  | true =>
    have h2 : i < 4 := hi
    rcases (by omega : i = 0 ∨ i = 1 ∨ i = 2 ∨ i = 3) with rfl | rfl | rfl | rfl <;> exact ⟨rfl, rfl⟩
  | false =>
    have h2 : i < 7 := hi
    rcases (by omega : i = 0 ∨ i = 1 ∨ i = 2 ∨ i = 3 ∨ i = 4 ∨ i = 5 ∨ i = 6) with rfl | rfl | rfl | rfl | rfl | rfl | rfl <;> exact ⟨rfl, rfl⟩
theorem ways_small (wv : Bool) (i : Nat) (hi : i < (waysL wv).length) : ((waysL wv).getD i (0, 0)).1 ≤ 3 ∧ ((waysL wv).getD i (0, 0)).2 ≤ 3 := by
  cases wv with
  | true =>
    have h2 : i < 4 := hi
    rcases (by omega : i = 0 ∨ i = 1 ∨ i = 2 ∨ i = 3) with rfl | rfl | rfl | rfl <;> decide
  | false =>
    have h2 : i < 7 := hi
    rcases (by omega : i = 0 ∨ i = 1 ∨ i = 2 ∨ i = 3 ∨ i = 4 ∨ i = 5 ∨ i = 6) with rfl | rfl | rfl | rfl | rfl | rfl | rfl <;> decide
theorem lowN_zero (a : Nat) : lowN a 0 = a := by unfold lowN; simp
theorem near_ways (a b : Nat) (wv : Bool) : nearL a b wv = (waysL wv).map fun d => (lowN a d.1, lowN b d.2) := by
  cases wv <;> simp [nearL, waysL, lowN_zero]
/-- what is seen from the j-th way on -/
def refAt (x y : Nat) (ps : List S45) (ks : List Bool) (wv : Bool) (a b j : Nat) : S45 := (((nearL a b wv).drop j).findSome? (seeL x y ps ks)).getD z45
theorem place_low {x y n a b i j : Nat} (hn : x * y = n) (ha : a < x) (hb : b < y) : placeL x y (lowN a i : Nat) (lowN b j : Nat) = ((lowN b j * x + lowN a i : Nat) : Int) ∧ lowN b j * x + lowN a i < n := by
  have h1 := lowN_le a i
  have h2 := lowN_le b j
  obtain ⟨p, hp⟩ : ∃ p, lowN a i = p := ⟨_, rfl⟩
  obtain ⟨q, hq⟩ : ∃ q, lowN b j = q := ⟨_, rfl⟩
  rw [hp] at h1 ⊢
  rw [hq] at h2 ⊢
  have h3 := place_in (x := x) (y := y) (a := p) (b := q) hn ⟨by omega, by omega, by omega, by omega⟩
  unfold placeL
  rw [if_pos ⟨by omega, by omega, by omega, by omega⟩]
  have e : ((q * x + p : Nat) : Int) = (q : Int) * x + p := by push_cast; rfl
  refine ⟨e.symm, ?_⟩
  omega
theorem ref_step {x y n : Nat} {ps : List S45} {ks : List Bool} {wv : Bool} {a b i : Nat} (hn : x * y = n) (ha : a < x) (hb : b < y) (hi : i < (waysL wv).length) {p q k : Nat} (hp : lowN a ((waysL wv).getD i (0, 0)).1 = p) (hq : lowN b ((waysL wv).getD i (0, 0)).2 = q) (hk : q * x + p = k) :
    refAt x y ps ks wv a b i = if ks.getD k false = true then ps.getD k z45 else refAt x y ps ks wv a b (i + 1) := by
  have hl : i < (nearL a b wv).length := by rw [near_ways, List.length_map]; exact hi
  have e : (nearL a b wv)[i] = (p, q) := by
    have h1 : (nearL a b wv)[i]? = some (p, q) := by
      rw [near_ways, List.getElem?_map, List.getElem?_eq_getElem hi]
      have h2 : (waysL wv)[i] = (waysL wv).getD i (0, 0) := by rw [List.getD_eq_getElem?_getD, List.getElem?_eq_getElem hi, Option.getD_some]
      rw [h2, Option.map_some, hp, hq]
    rw [List.getElem?_eq_getElem hl] at h1
    exact Option.some.inj h1
  unfold refAt
  rw [List.drop_eq_getElem_cons hl, List.findSome?_cons, e]
  have h3 := (place_low (x := x) (y := y) (n := n) (i := ((waysL wv).getD i (0, 0)).1) (j := ((waysL wv).getD i (0, 0)).2) hn ha hb).1
  rw [hp, hq, hk] at h3
  unfold seeL atL
  dsimp only
  rw [h3]
  simp only [Int.toNat_natCast]
  cases hkk : ks.getD k false with
  | true => simp
  | false => simp
theorem ref_end (x y : Nat) (ps : List S45) (ks : List Bool) (wv : Bool) (a b : Nat) : refAt x y ps ks wv a b (waysL wv).length = z45 := by
  unfold refAt
  rw [List.drop_of_length_le (by rw [near_ways, List.length_map]; exact Nat.le_refl _)]
  rfl
theorem ref_view {x y n : Nat} {ps : List S45} {ks : List Bool} (wv : Bool) (hn : x * y = n) (hB : Blank ps ks) (i : Nat) (hi : i < n) (hx : 0 < x) : viewAt x y ps ks wv i = refAt x y ps ks wv (i % x) (i / x) 0 := by
  unfold viewAt refAt
  rw [List.drop_zero]
  cases h : (nearL (i % x) (i / x) wv).findSome? (seeL x y ps ks) with
  | some p => rfl
  | none =>
    have h1 := List.findSome?_eq_none_iff.1 h (i % x, i / x) (by cases wv <;> simp [nearL])
    unfold seeL at h1
    dsimp only at h1
    rw [at_div hn hx hi hB] at h1
    dsimp only at h1
    have h2 : ks.getD i false = false := by
      cases hk : ks.getD i false with
      | false => rfl
      | true => rw [hk] at h1; simp at h1
    rw [hB i h2]
/-- the view, as far as it is laid -/
def refTo (x y : Nat) (ps : List S45) (ks : List Bool) (wv : Bool) (k : Nat) : List S45 := (List.range k).map fun i => refAt x y ps ks wv (i % x) (i / x) 0
theorem refTo_succ (x y : Nat) (ps : List S45) (ks : List Bool) (wv : Bool) (k : Nat) : refTo x y ps ks wv (k + 1) = refTo x y ps ks wv k ++ [refAt x y ps ks wv (k % x) (k / x) 0] := by
  unfold refTo
  rw [List.range_succ, List.map_append, List.map_singleton]
theorem refTo_length (x y : Nat) (ps : List S45) (ks : List Bool) (wv : Bool) (k : Nat) : (refTo x y ps ks wv k).length = k := by simp [refTo]
theorem ref_all {x y n : Nat} {ps : List S45} {ks : List Bool} (wv : Bool) (hn : x * y = n) (hB : Blank ps ks) (hx : 0 < x) (hl : ps.length = n) : refTo x y ps ks wv n = viewTo x y ps ks wv n := by
  apply List.ext_getElem (by rw [refTo_length, viewTo_length, hl])
  intro i h1 h2
  rw [refTo_length] at h1
  simp only [refTo, viewTo, List.getElem_map, List.getElem_range, List.getElem_mapIdx]
  rw [if_pos h1, ref_view wv hn hB i h1 hx]
/-- between two rounds -/
structure RV (w0 wr : World) (d : Cv) (gw : Nat) (wv : Bool) (v : Value) (out : List S45) : Prop where
  bl : Below w0.heap.size w0 wr
  res : wr.heap[w0.heap.size]? = some (.cells #[.int .i64 0, .int .i64 0, .slice none 0 0] 39 (0, 0))
  img : wr.heap[w0.heap.size + 1]? = some (.cells #[.int .i64 d.x, .int .i64 d.y, v] 39 (0, 0))
  row : Kd.R k45 45 wr w0.heap.size (fun k => w0.heap.size ≤ k) v out
  wy : wr.heap[gw]? = some (.cells (waysC wv) 73 (0, 0))
section
variable {w0 wr w1 : World} {d : Cv} {gw pb : Nat} {wv : Bool} {v v1 : Value} {out out1 : List S45}
theorem RV.ext (h : RV w0 wr d gw wv v out) (hb : Below wr.heap.size wr w1) : RV w0 w1 d gw wv v out := ⟨below_then h.bl h.bl.size hb, blk_below h.res hb, blk_below h.img hb, Kd.R_below h.row hb, blk_below h.wy hb⟩
/-- a pixel is appended, and the row laid down -/
theorem RV.app (h : RV w0 wr d gw wv v out) (ho : Kd.R k45 45 w1 w0.heap.size (fun k => w0.heap.size ≤ k) v1 out1) (hb : Below w0.heap.size w0 w1) (hg : wr.grownBy w1 v.ownBlock) : RV w0 (w1.setCell ⟨w0.heap.size + 1, 2, none⟩ v1) d gw wv v1 out1 := by
  have i1 := blk_grown h.img hg (Kd.R_ne h.row h.img (by decide))
  have r1 := blk_grown h.res hg (Kd.R_ne h.row h.res (by decide))
  have y1 := blk_grown h.wy hg (Kd.R_ne h.row h.wy (by decide))
  have hne := Kd.R_ne ho i1 (by decide)
  refine ⟨hb.setCell (p := ⟨w0.heap.size + 1, 2, none⟩) (Nat.le_succ _) _, blk_far r1 (p := ⟨w0.heap.size + 1, 2, none⟩) (by show w0.heap.size ≠ w0.heap.size + 1; omega) _, ?_, ?_, blk_far y1 (p := ⟨w0.heap.size + 1, 2, none⟩) (blk_ne y1 i1 (by decide)) _⟩
  · have h1 := blk_set i1 2 v1
    simpa using h1
  · exact Kd.R_mono (Kd.R_far (Kd.R_far1 ho rfl hne) (p := ⟨w0.heap.size + 1, 2, none⟩) (fun k hk => hk.2) _) (fun k hk => hk.1)
/-- while a pixel is looked for -/
structure RI (w0 wr : World) (d : Cv) (gw : Nat) (wv : Bool) (v : Value) (out : List S45) (pb : Nat) (p : S45) : Prop where
  rv : RV w0 wr d gw wv v out
  pbx : wr.heap[pb]? = some (.cells #[.int .u16 p.f0, .int .u16 p.f1, .int .u16 p.f2, .int .u16 p.f3] 45 (0, 0))
  pn : some pb ≠ v.ownBlock
  pge : w0.heap.size ≤ pb
theorem RI.ext {p : S45} (h : RI w0 wr d gw wv v out pb p) (hb : Below wr.heap.size wr w1) : RI w0 w1 d gw wv v out pb p := ⟨h.rv.ext hb, blk_below h.pbx hb, h.pn, h.pge⟩
theorem RI.put {p : S45} (h : RI w0 wr d gw wv v out pb p) (x : S45) : RI w0 ((((wr.setCell ⟨pb, 0, none⟩ (.int .u16 x.f0)).setCell ⟨pb, 1, none⟩ (.int .u16 x.f1)).setCell ⟨pb, 2, none⟩ (.int .u16 x.f2)).setCell ⟨pb, 3, none⟩ (.int .u16 x.f3)) d gw wv v out pb x := by
  have n1 := blk_ne h.pbx h.rv.res (by decide)
  have n2 := blk_ne h.pbx h.rv.img (by decide)
  have n3 := blk_ne h.pbx h.rv.wy (by decide)
  have f : ∀ {g t : Nat} {o : Array Value}, wr.heap[g]? = some (.cells o t (0, 0)) → g ≠ pb → ((((wr.setCell ⟨pb, 0, none⟩ (.int .u16 x.f0)).setCell ⟨pb, 1, none⟩ (.int .u16 x.f1)).setCell ⟨pb, 2, none⟩ (.int .u16 x.f2)).setCell ⟨pb, 3, none⟩ (.int .u16 x.f3)).heap[g]? = some (.cells o t (0, 0)) := fun hh hn =>
    blk_far (blk_far (blk_far (blk_far hh (p := ⟨pb, 0, none⟩) hn _) (p := ⟨pb, 1, none⟩) hn _) (p := ⟨pb, 2, none⟩) hn _) (p := ⟨pb, 3, none⟩) hn _
  refine ⟨⟨(((h.rv.bl.setCell (p := ⟨pb, 0, none⟩) h.pge _).setCell (p := ⟨pb, 1, none⟩) h.pge _).setCell (p := ⟨pb, 2, none⟩) h.pge _).setCell (p := ⟨pb, 3, none⟩) h.pge _, f h.rv.res (fun e => n1 e.symm), f h.rv.img (fun e => n2 e.symm), ?_, f h.rv.wy (fun e => n3 e.symm)⟩, ?_, h.pn, h.pge⟩
  · have h1 := Kd.R_far1 h.rv.row rfl h.pn
    exact Kd.R_mono (Kd.R_far (Kd.R_far (Kd.R_far (Kd.R_far h1 (p := ⟨pb, 0, none⟩) (fun k hk => hk.2) _) (p := ⟨pb, 1, none⟩) (fun k hk => hk.2) _) (p := ⟨pb, 2, none⟩) (fun k hk => hk.2) _) (p := ⟨pb, 3, none⟩) (fun k hk => hk.2) _) (fun k hk => hk.1)
  · have h1 := blk_set (blk_set (blk_set (blk_set h.pbx 0 (.int .u16 x.f0)) 1 (.int .u16 x.f1)) 2 (.int .u16 x.f2)) 3 (.int .u16 x.f3)
    simpa using h1
theorem RV.box (h : RV w0 wr d gw wv v out) (p : S45) : RI w0 (wr.alloc (.cells #[.int .u16 p.f0, .int .u16 p.f1, .int .u16 p.f2, .int .u16 p.f3] 45)) d gw wv v out wr.heap.size p :=
  ⟨h.ext ((Below.refl _ _).alloc (Nat.le_refl _) _), heap_alloc_new wr _, Kd.R_ne_new h.row 0, h.bl.size⟩
end
end Go.Proofs.Ytmeafgoifekffaa.Lib
