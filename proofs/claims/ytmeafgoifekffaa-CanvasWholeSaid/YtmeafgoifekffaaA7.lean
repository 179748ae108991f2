/- CanvasWhole: the walk. -/
import Derived.Test.YtmeafgoifekffaaV20
import Derived.Test.YtmeafgoifekffaaA3
import Derived.Test.YtmeafgoifekffaaV9
namespace Go.Proofs.Ytmeafgoifekffaa.Lib
open Go.RowKit Go.Shelf Go.Proofs.YtmeafgoifekffaaW.PrintWords Go.Proofs.YtmeafgoifekffaaW.PrintLast Go.Proofs.YtmeafgoifekffaaW.PrintMore
attribute [local go_sem high] eqA45
attribute [local go_sem] max2_mx min2_mn max_two min_two
set_option linter.unusedVariables false
set_option linter.unusedSimpArgs false
/-- the picture's pixels -/
def pxL (x i : Nat) : S45 := ⟨(i : Int) * 7, (i : Int), (x : Int), 65535⟩
def imgL (x n : Nat) : List S45 := (List.range n).map (pxL x)
theorem imgL_succ (x n : Nat) : imgL x (n + 1) = imgL x n ++ [pxL x n] := by simp [imgL, List.range_succ]
theorem imgL_length (x n : Nat) : (imgL x n).length = n := by simp [imgL]
theorem lines_any (x y : Nat) (la : Bool) (hx : 1 ≤ x ∧ x ≤ 30) (hy : 1 ≤ y ∧ y ≤ 30) (w : World) : Calls Try.prog 17 #[.int .i64 x, .int .i64 y, .bool la] w fun e w' => LinesP w (allL x y (gridsOf la false)) e w' := by
  cases la
  · exact lines_plain x y hx hy w
  · exact lines_laced x y hx hy w
theorem woven_any (x y : Nat) (la : Bool) (hx : 1 ≤ x ∧ x ≤ 30) (hy : 1 ≤ y ∧ y ≤ 30) (w : World) : Calls Try.prog 18 #[.int .i64 x, .int .i64 y, .bool la] w fun e w' => LinesP w (allL x y (gridsOf la true)) e w' := by
  cases la
  · exact woven_plain x y hx hy w
  · exact woven_laced x y hx hy w
/-- the picture in memory -/
structure Img (w0 W : World) (b : Nat) (x y : Nat) (u : Value) (l : List S45) : Prop where
  bx : W.heap[b]? = some (.cells #[.int .i64 x, .int .i64 y, u] 39 (0, 0))
  row : Kd.R k45 45 W w0.heap.size (fun _ => True) u l
  bl : Below w0.heap.size w0 W
theorem Img.ext {w0 W W1 : World} {b x y : Nat} {u : Value} {l : List S45} (h : Img w0 W b x y u l) (hb : Below W.heap.size W W1) : Img w0 W1 b x y u l := ⟨blk_below h.bx hb, Kd.R_below h.row hb, below_then h.bl h.bl.size hb⟩
theorem img_form {W : World} {base : Nat} {ok : Nat → Prop} {v : Value} {x t : Nat} (h : Kd.R k45 45 W base ok v (imgL x t ++ [pxL x t])) : ∃ A c, v = .slice A (t + 1) c ∧ Kd.R k45 45 W base ok (.slice A (t + 1) c) (imgL x (t + 1)) := by
  rw [← imgL_succ] at h
  obtain ⟨A, c, rfl⟩ := Kd.R_slice h
  rw [imgL_length] at h ⊢
  exact ⟨A, c, rfl, h⟩
theorem Img.push {w0 W w3 : World} {b x y : Nat} {u v : Value} {l l2 : List S45} (h : Img w0 W b x y u l) (hge : w0.heap.size ≤ b) (hg : W.grownBy w3 u.ownBlock) (hb : Below w0.heap.size w0 w3) (hr : Kd.R k45 45 w3 w0.heap.size (fun _ => True) v l2) : Img w0 (w3.setCell ⟨b, 2, none⟩ v) b x y v l2 := by
  have hx := blk_grown h.bx hg (Kd.R_ne h.row h.bx (by decide))
  exact ⟨by simpa using blk_set hx 2 v, Kd.R_set hr hx (by decide) 2 v, hb.setCell hge _⟩
theorem LS.low {W : World} {base b : Nat} {v : Value} {ts : List Ln} {ls : List (List S51)} (h : LS W base v ts ls) (hb : b ≤ base) : LS W b v ts ls := ⟨Kd.R_lower h.row hb, h.len, fun j hj => Kd.R_lower (h.sp j hj) hb⟩
/-- between two lines: the canvas, what is left of the lines -/
structure Wh (w0 wL W : World) (cv : Cv) (x y : Nat) (img : List S45) (v : Value) (ts : List Ln) (L : List (List S51)) (ps : List S45) (ks : List Bool) : Prop where
  bl : Below wL.heap.size wL W
  cv : IsCv W wL.heap.size cv (cntL ks) ps ks
  row : Kd.R kf 49 W w0.heap.size (fun _ => True) v ts
  len : ts.length = L.length
  sp : ∀ j, j < L.length → Kd.R k51 51 wL w0.heap.size (fun k => k < wL.heap.size) (.slice (ts.getD j zL).A (ts.getD j zL).n (ts.getD j zL).c) (L.getD j [])
  rest : Rest x y L ks
  pic : Pic ps img ks
theorem wh_new {w0 wL W : World} {cv : Cv} {x y : Nat} {img : List S45} {A : Option Addr} {m c : Nat} {ts : List Ln} {la wo : Bool} (h : LS wL w0.heap.size (.slice A m c) ts (allL x y (gridsOf la wo))) (hb : Below wL.heap.size wL W) (hc : IsCv W wL.heap.size cv 0 (List.replicate cv.n z45) (List.replicate cv.n false)) (hx : cv.x = x) (hy : cv.y = y) :
    Wh w0 wL W cv x y img (.slice A m c) ts (allL x y (gridsOf la wo)) (List.replicate (x * y) z45) (List.replicate (x * y) false) := by
  have hn : cv.n = x * y := by unfold Cv.n; rw [hx, hy]
  rw [hn] at hc
  exact ⟨hb, by rw [cnt_new]; exact hc, Kd.R_below h.row hb, h.len, fun j hj => Kd.R_mono (Kd.R_bound (h.sp j hj)) (fun k hk => hk.2.2.1), rest_new x y la wo, pic_new _ _ _⟩
/-- the colours of a line's spots -/
def colsL (x y : Nat) (img : List S45) (s : List S51) : List S45 := s.map fun q => img.getD (plc x y q).toNat z45
/-- a line that is made up, since a world -/
structure N3 (W0 W : World) (A : Option Addr) (n c : Nat) (u : Value) (cols : List S45) : Prop where
  bl : Below W0.heap.size W0 W
  bx : W.heap[W0.heap.size]? = some (.cells #[.int .i64 0, .slice A n c, u] 35 (0, 0))
  row : Kd.R k45 45 W W0.heap.size (fun k => W0.heap.size ≤ k) u cols
theorem split_at {α : Type} (L : List α) (k : Nat) (z : α) (h : k < L.length) : L = L.take k ++ L.getD k z :: L.drop (k + 1) := by
  have e : L.getD k z = L[k] := by rw [List.getD_eq_getElem?_getD, List.getElem?_eq_getElem h]; rfl
  rw [e, ← List.drop_eq_getElem_cons h, List.take_append_drop]
theorem spot_in {x y : Nat} {s : List S51} (h : outB x y s = false) (t : Nat) (ht : t < s.length) : ∃ X Y : Nat, s.getD t z51 = ⟨(X : Int), (Y : Int)⟩ ∧ X < x ∧ Y < y ∧ (plc x y (s.getD t z51)).toNat = Y * x + X := by
  have hm : s.getD t z51 ∈ s := by rw [List.getD_eq_getElem?_getD, List.getElem?_eq_getElem ht]; exact List.getElem_mem _
  have h1 := List.any_eq_false.1 h _ hm
  obtain ⟨⟨a, b⟩, hq⟩ : ∃ q, s.getD t z51 = q := ⟨_, rfl⟩
  rw [hq] at h1 ⊢
  have h2 : ¬ plc x y ⟨a, b⟩ < 0 := by simpa using h1
  by_cases h3 : 0 ≤ a ∧ a < x ∧ 0 ≤ b ∧ b < y
  · obtain ⟨h4, h5, h6, h7⟩ := h3
    obtain ⟨X, rfl⟩ : ∃ X : Nat, a = X := ⟨a.toNat, by omega⟩
    obtain ⟨Y, rfl⟩ : ∃ Y : Nat, b = Y := ⟨b.toNat, by omega⟩
    refine ⟨X, Y, rfl, by omega, by omega, ?_⟩
    rw [plc_in (by omega) (by omega), Int.toNat_natCast]
  · exfalso
    apply h2
    unfold plc placeL
    rw [if_neg h3]
    decide
theorem colsL_succ (x y : Nat) (img : List S45) (s : List S51) (t : Nat) (h : t < s.length) : colsL x y img (s.take (t + 1)) = colsL x y img (s.take t) ++ [img.getD (plc x y (s.getD t z51)).toNat z45] := by
  have e : s.getD t z51 = s[t] := by rw [List.getD_eq_getElem?_getD, List.getElem?_eq_getElem h]; rfl
  unfold colsL
  rw [List.take_succ_eq_append_getElem h, List.map_append, e]
  rfl
/-- what the region that adds a colour loads -/
theorem s25 {W0 W : World} {b13 gi p n ci x y b22 : Nat} {X Y : Int} {px : S45} (hI : W0.heap[b13]? = some (.cells #[.int .i64 x, .int .i64 y, .slice (some ⟨gi, 0, none⟩) n ci] 39 (0, 0)))
    (hP : W0.cell? ⟨gi, p * 4, none⟩ = some (.int .u16 px.f0) ∧ W0.cell? ⟨gi, p * 4 + 1, none⟩ = some (.int .u16 px.f1) ∧ W0.cell? ⟨gi, p * 4 + 2, none⟩ = some (.int .u16 px.f2) ∧ W0.cell? ⟨gi, p * 4 + 3, none⟩ = some (.int .u16 px.f3))
    (hb : Below W0.heap.size W0 W) (hx : W.heap[b22]? = some (.cells #[.int .i64 X, .int .i64 Y] 51 (0, 0))) :
    W.cell? ⟨b13, 2, none⟩ = some (.slice (some ⟨gi, 0, none⟩) n ci) ∧ W.cell? ⟨b22, 0, none⟩ = some (.int .i64 X) ∧ W.cell? ⟨b22, 1, none⟩ = some (.int .i64 Y) ∧ W.cell? ⟨gi, p * 4, none⟩ = some (.int .u16 px.f0) ∧ W.cell? ⟨gi, p * 4 + 1, none⟩ = some (.int .u16 px.f1) ∧ W.cell? ⟨gi, p * 4 + 2, none⟩ = some (.int .u16 px.f2) ∧ W.cell? ⟨gi, p * 4 + 3, none⟩ = some (.int .u16 px.f3) :=
  ⟨blk_cell (blk_below hI hb) 2, blk_cell hx 0, blk_cell hx 1, pw_cell_below hb hP.1, pw_cell_below hb hP.2.1, pw_cell_below hb hP.2.2.1, pw_cell_below hb hP.2.2.2⟩
theorem row_form {α : Type} {d : Kd α} {e : Nat} {W : World} {base : Nat} {ok : Nat → Prop} {v : Value} {xs : List α} {n : Nat} (hl : xs.length = n) (h : Kd.R d e W base ok v xs) : ∃ A c, v = .slice A n c ∧ Kd.R d e W base ok (.slice A n c) xs := by
  obtain ⟨A, c, rfl⟩ := Kd.R_slice h
  subst hl
  exact ⟨A, c, rfl, h⟩
theorem N3.push {W0 W w3 : World} {A : Option Addr} {n c : Nat} {u v : Value} {cols cols2 : List S45} (h : N3 W0 W A n c u cols) (hg : W.grownBy w3 u.ownBlock) (hb : Below W0.heap.size W0 w3) (hr : Kd.R k45 45 w3 W0.heap.size (fun k => W0.heap.size ≤ k) v cols2) : N3 W0 (w3.setCell ⟨W0.heap.size, 2, none⟩ v) A n c v cols2 := by
  have hx := blk_grown h.bx hg (Kd.R_ne h.row h.bx (by decide))
  exact ⟨hb.setCell (Nat.le_refl _) _, by simpa using blk_set hx 2 v, Kd.R_set hr hx (by decide) 2 v⟩
theorem N3.ext {W0 W W1 : World} {A : Option Addr} {n c : Nat} {u : Value} {cols : List S45} (h : N3 W0 W A n c u cols) (hb : Below W.heap.size W W1) : N3 W0 W1 A n c u cols := ⟨below_then h.bl h.bl.size hb, blk_below h.bx hb, Kd.R_below h.row hb⟩
theorem R_keptT {α : Type} {d : Kd α} {e base : Nat} {ok : Nat → Prop} {v : Value} {xs : List α} {W W2 : World} {S : Nat → Prop} (h : Kd.R d e W base ok v xs) (hk : Kept W W2 S) (hS : ∀ k, S k → ∃ cells t, W.heap[k]? = some (.cells cells t (0, 0)) ∧ ∀ q, q ∈ e :: d.E → q ≠ t) : Kd.R d e W2 base ok v xs := by
  refine Kd.R_mono (Kd.R_kept (Kd.R_bound h) hk (fun k hk hs => ?_)) (fun k hk => hk.1)
  obtain ⟨_, _, _, q, hq, cells, hc⟩ := hk
  obtain ⟨cells2, t, hc2, ht⟩ := hS k hs
  rw [hc] at hc2
  injection hc2 with h1
  injection h1 with _ h2
  exact ht q hq h2
theorem IsCv.types {W : World} {n₀ : Nat} {c : Cv} {cnt : Nat} {ps : List S45} {ks : List Bool} (h : IsCv W n₀ c cnt ps ks) {l : List Nat} (hl : ∀ q, q ∈ l → q ≠ 64 ∧ q ≠ 45 ∧ q ≠ 4) : ∀ k, c.S k → ∃ cells t, W.heap[k]? = some (.cells cells t (0, 0)) ∧ ∀ q, q ∈ l → q ≠ t := by
  obtain ⟨a, ha⟩ := h.bp
  obtain ⟨b, hb⟩ := h.bk
  rintro k (rfl | rfl | rfl)
  · exact ⟨_, _, h.blk, fun q hq => (hl q hq).1⟩
  · exact ⟨_, _, ha, fun q hq => (hl q hq).2.1⟩
  · exact ⟨_, _, hb, fun q hq => (hl q hq).2.2⟩
theorem lay_mid {wL wo W : World} {b0 : Nat} {cv : Cv} {ps : List S45} {ks : List Bool} {A6 A7 : Option Addr} {c6 c7 n6 : Nat} {s : List S51} {cols : List S45} (hcv : IsCv W wL.heap.size cv (cntL ks) ps ks) (hS : ∀ k, cv.S k → wL.heap.size ≤ k ∧ k < wo.heap.size) (hsp : Kd.R k51 51 wL b0 (fun k => k < wL.heap.size) (.slice A6 n6 c6) s) (hbl : Below wL.heap.size wL W)
    (hrow : Kd.R k45 45 W wo.heap.size (fun k => wo.heap.size ≤ k) (.slice A7 n6 c7) cols) (hs : s.length = n6) (hc : cols.length = n6) (hn : n6 ≤ 30) {P : Int × Nat × List S45 × List Bool} (hP : layL cv.x cv.y (cntL ks) ps ks s cols = P) :
    Calls Try.prog 12 #[.pointer (some ⟨cv.g, 0, none⟩), .agg #[.int .i64 0, .slice A6 n6 c6, .slice A7 n6 c7]] W fun e w' => LayP W wL.heap.size cv P e w' := by
  have hcnt : cntL ks ≤ 1000000 := by have := cntL_le ks; have := hcv.lk; have := hcv.sz.2.2.2.2; omega
  rw [← hP]
  exact lay_walk hcv hbl.size 0 A6 A7 c6 c7 s cols hs hc (by omega) hcnt (Kd.C_kept_own (Kd.R_below hsp hbl) (fun k hk h => by have := hS k h; omega)) (Kd.C_kept_own hrow (fun k hk h => by have := hS k h; omega))
theorem Rest.cnt {x y : Nat} {A B : List (List S51)} {s : List S51} {ks : List Bool} (h : Rest x y (A ++ s :: B) ks) : cntL (markL ks (spotsIn x y s)) = cntL ks + s.length := by
  have h1 := markL_cnt ks (spotsIn x y s) (fun i hi => by rw [h.len]; exact h.lt i hi) h.clash _ (Nat.le_refl _)
  rwa [List.take_length, spotsIn_length] at h1
theorem getD_rm {α : Type} (xs : List α) (k : Nat) (z : α) (hk : k < xs.length) (j : Nat) : (xs.take k ++ xs.drop (k + 1)).getD j z = xs.getD (if j < k then j else j + 1) z := by
  have hl : (xs.take k).length = k := by rw [List.length_take]; omega
  by_cases h : j < k
  · rw [if_pos h, List.getD_eq_getElem?_getD, List.getElem?_append_left (by omega), List.getElem?_take, if_pos h, ← List.getD_eq_getElem?_getD]
  · rw [if_neg h, List.getD_eq_getElem?_getD, List.getElem?_append_right (by omega), hl, List.getElem?_drop, show k + 1 + (j - k) = j + 1 by omega, ← List.getD_eq_getElem?_getD]
theorem len_rm {α : Type} (xs : List α) (k : Nat) (hk : k < xs.length) : (xs.take k ++ xs.drop (k + 1)).length = xs.length - 1 := by
  rw [List.length_append, List.length_take, List.length_drop]
  omega
theorem cols_at (x y : Nat) (img : List S45) (s : List S51) (i : Nat) (hi : i < s.length) : (colsL x y img s).getD i z45 = img.getD ((spotsIn x y s).getD i 0) z45 := by
  rw [spotsIn_getD _ _ _ _ hi]
  unfold colsL
  rw [List.getD_eq_getElem?_getD, List.getElem?_map, List.getD_eq_getElem?_getD (l := s), List.getElem?_eq_getElem hi]
  rfl
theorem Wh.step {w0 wL W w12 : World} {cv : Cv} {x y : Nat} {img : List S45} {v v2 : Value} {ts : List Ln} {L : List (List S51)} {ps : List S45} {ks : List Bool} (h : Wh w0 wL W cv x y img v ts L ps ks) (k : Nat) {s : List S51} (hR : Rest x y (L.take k ++ s :: L.drop (k + 1)) ks) (hk : k < L.length) (hp : ps.length = x * y) (hb : Below wL.heap.size wL w12)
    (hc : IsCv w12 wL.heap.size cv (cntL ks + s.length) (putL ps (spotsIn x y s) (colsL x y img s)) (markL ks (spotsIn x y s))) (hr : Kd.R kf 49 w12 w0.heap.size (fun _ => True) v2 (ts.take k ++ ts.drop (k + 1))) :
    Wh w0 wL w12 cv x y img v2 (ts.take k ++ ts.drop (k + 1)) (L.take k ++ L.drop (k + 1)) (putL ps (spotsIn x y s) (colsL x y img s)) (markL ks (spotsIn x y s)) := by
  refine ⟨hb, by rw [hR.cnt]; exact hc, hr, by rw [len_rm ts k (by rw [h.len]; exact hk), len_rm L k hk, h.len], fun j hj => ?_, hR.step, hR.pic hp (by simp [colsL]) (fun i hi => cols_at x y img s i hi) h.pic⟩
  rw [len_rm L k hk] at hj
  rw [getD_rm ts k zL (by rw [h.len]; exact hk), getD_rm L k [] hk]
  refine h.sp _ ?_
  split <;> omega
theorem box39 {W0 W : World} {g : Nat} {a b e : Value} (h : W0.heap[g]? = some (.cells #[a, b, e] 39 (0, 0))) (hb : Below W0.heap.size W0 W) : W.cell? ⟨g, 0, none⟩ = some a ∧ W.cell? ⟨g, 1, none⟩ = some b ∧ W.cell? ⟨g, 2, none⟩ = some e := ⟨blk_cell (blk_below h hb) 0, blk_cell (blk_below h hb) 1, blk_cell (blk_below h hb) 2⟩
/-- a told image -/
def ToldI (W0 : World) (x y n : Nat) (l : List S45) (e : Ending) (w' : World) : Prop := ∃ g c, e = .returned (.agg #[.int .i64 x, .int .i64 y, .slice (some ⟨g, 0, none⟩) n c]) ∧ n ≤ c ∧ Kd.C k45 w' (some ⟨g, 0, none⟩) n l ∧ Below W0.heap.size W0 w'
theorem told_of {W0 W : World} {x y n : Nat} {l : List S45} {e : Ending} {w' : World} (hb : Below W0.heap.size W0 W) (hl : l.length = n) (h : ImgP x y W l e w') : ToldI W0 x y n l e w' := by
  obtain ⟨g, c, rfl, _, hR, hb2⟩ := h
  obtain ⟨q1, q2, q3⟩ := Kd.R_reads' hR
  rw [hl] at q2 q3 ⊢
  exact ⟨g, c, rfl, q2, q3, below_then hb hb.size hb2⟩
set_option maxHeartbeats 8000000 in
set_option maxRecDepth 100000 in
theorem whole_row (a b : Int) (la wo : Bool) (A4 : Option Addr) (c4 : Nat) (os : List Int) (w : World) (h0 : 0 ≤ a ∧ a ≤ 255) (h1 : 0 ≤ b ∧ b ≤ 255) (hr : Kd.C (Kd.int .u8) w A4 os.length os) (hc4 : os.length ≤ c4) (hos : ∀ o ∈ os, 0 ≤ o ∧ o ≤ 255) :
    Calls Try.prog 4 #[.int .u8 a, .int .u8 b, .bool la, .bool wo, .slice A4 os.length c4] w fun e w' => e = .returned (.bool true) ∧ Below w.heap.size w w' := by
  obtain ⟨x, hx⟩ : ∃ x : Nat, 1 + a % 30 = x := ⟨(1 + a % 30).toNat, by omega⟩
  obtain ⟨y, hy⟩ : ∃ y : Nat, 1 + b % 30 = y := ⟨(1 + b % 30).toNat, by omega⟩
  have hx1 : 1 ≤ x ∧ x ≤ 30 := by omega
  have hy1 : 1 ≤ y ∧ y ≤ 30 := by omega
  obtain ⟨n, hn⟩ : ∃ n : Nat, x * y = n := ⟨_, rfl⟩
  have hni : (x : Int) * (y : Int) = n := by rw [← hn]; push_cast; rfl
  have hn2 : n ≤ 900 := by rw [← hn]; exact Nat.mul_le_mul hx1.2 hy1.2
  have hn1 : 1 ≤ n := by rw [← hn]; exact Nat.mul_pos (by omega) (by omega)
  have hw : IntKind.i64.wrap (n : Int) = n := wrapI (by omega) (by omega)
  have HN1 := Aside0.mk hn
  have HC := Aside0.mk (show CvOk x y from ⟨by omega, by omega, by omega, by omega, by omega⟩)
  have HR := Aside0.mk hr
  have HOS := Aside0.mk hos
  have HLI := Aside0.mk (fun W => lines_any x y la hx1 hy1 W)
  have HWO := Aside0.mk (fun W => woven_any x y la hx1 hy1 W)
  obtain ⟨l, hl⟩ : ∃ l, os.length = l := ⟨_, rfl⟩
  have HLL := Aside0.mk hl
  rw [hl] at HR hc4 ⊢
  clear hr hl hn hos
  go_enter Try.func4, Try.ntmps4
  go_wp2_with (first
    | (go_at_call 8; refine (halftonelaw19_fixed.calls true _ rfl).mono ?_; rintro e w1 ⟨rfl, hb1⟩; have HB1 := Aside0.mk hb1; clear hb1))
  obtain ⟨wa, hwa⟩ : ∃ wa, w1.alloc (.cells #[.int .i64 x, .int .i64 y, .slice none 0 0] 39) = wa := ⟨_, rfl⟩
  have HI0 := Aside0.mk (show Img w wa w1.heap.size x y (.slice none 0 0) (imgL x 0) from by
    rw [← hwa]
    exact ⟨heap_alloc_new _ _, Kd.R_nil _ _ _ _ _, below_alloc HB1.out _⟩)
  rw [hwa]
  have HGE := Aside0.mk HB1.out.size
  clear hwa
  go_loopw [14] (fun i wr => ∃ (t : Nat) (u : Value), i = .int .i64 t ∧ t ≤ n ∧ Aside0 (Img w wr w1.heap.size x y u (imgL x t))) (fun i _ => n - (intOf i).toNat)
  case atStart => exact ⟨0, _, rfl, Nat.zero_le _, HI0⟩
  case round =>
    clear HI0
    obtain ⟨t, u, rfl, ht, HI⟩ := hrel
    have hb2 := blk_cell HI.out.bx 2
    have hf2 := blk_frozen HI.out.bx 2
    by_cases hlt : t < n
    · have htl : (imgL x t).length ≤ 900 := by rw [imgL_length]; omega
      go_wp2_with (first
        | (at_builtin; refine Kd.R_append k45 (w0 := w) w.heap.size rfl (.tmp 44) (.tmp 53) 33 45 (.agg #[.int .u16 0, .int .u16 0, .int .u16 0, .int .u16 0]) 8 rfl Try.underlying33 info45_ rfl (by decide) (by omega) u (imgL x t) (pxL x t) [.int .u16 ((t : Int) * 7), .int .u16 t, .int .u16 x, .int .u16 65535] (fun _ => True) (fun _ => False) rfl rfl (k45_mkM _ _ _ (pxL x t)) (fun _ hk => hk.elim) (fun _ _ => trivial) HI.out.row HI.out.bl HI.out.bl.size (by omega) ?_; intro v3 w3 ho hb3 hg hat; have HBX3 := Aside0.mk (blk_grown HI.out.bx hg (Kd.R_ne HI.out.row HI.out.bx (by decide))); have hq2 := blk_cell HBX3.out 2; have hqf := blk_frozen HBX3.out 2; obtain ⟨A3, c3, rfl, hr3⟩ := img_form ho; have HI3 := Aside0.mk (HI.out.push HGE.out hg hb3 hr3); clear ho hb3 hg hat hr3 hb2 hf2))
      exact ⟨⟨t + 1, _, by push_cast; rfl, by omega, HI3⟩, by simp [intOf]; omega⟩
    · obtain rfl : n = t := by omega
      have HIN := Aside0.mk (show ∃ (Ai : Option Addr) (ci : Nat), u = .slice Ai n ci from by
        obtain ⟨Ai, ci, e⟩ := Kd.R_slice HI.out.row
        rw [imgL_length] at e
        exact ⟨Ai, ci, e⟩)
      obtain ⟨Ai, ci, rfl⟩ := HIN.out
      obtain ⟨gi, rfl⟩ : ∃ gi : Nat, Ai = some ⟨gi, 0, none⟩ := by
        obtain ⟨g, cap, e, _⟩ := Kd.R_form HI.out.row (by rw [imgL_length]; exact hn1)
        injection e with e1
        exact ⟨g, e1⟩
      clear HIN
      obtain ⟨Ls, hLs⟩ : ∃ Ls, allL x y (gridsOf la wo) = Ls := ⟨_, rfl⟩
      have HLS := Aside0.mk hLs
      clear hLs
      go_upto_if 60 with (first
        | (go_at_call 17; refine (HLI.out _).mono ?_; rintro e w5 ⟨A5, c5, ts5, rfl, h1, h2⟩; have HL5 := Aside0.mk h1; have HB5 := Aside0.mk h2; clear h1 h2))
      go_cut [15] from 36 (fun v15 wx => ∃ (A : Option Addr) (c : Nat) (ts : List Ln), v15 = .slice A Ls.length c ∧ Aside0 (LS wx w.heap.size (.slice A Ls.length c) ts Ls) ∧ Aside0 (Img w wx w1.heap.size x y (.slice (some ⟨gi, 0, none⟩) n ci) (imgL x n)))
      case first =>
        cases wo
        · go_wp2
          go_meet
          case rel =>
            have e : allL x y (gridsOf la false) = Ls := HLS.out
            rw [e] at HL5 ⊢
            exact ⟨A5, c5, ts5, rfl, ⟨HL5.out.low HI.out.bl.size⟩, ⟨HI.out.ext HB5.out⟩⟩
        · go_wp2_with (first
            | (go_at_call 18; refine (HWO.out _).mono ?_; rintro e w6 ⟨A6, c6, ts6, rfl, h1, h2⟩; have HL6 := Aside0.mk h1; have HB6 := Aside0.mk h2; clear h1 h2))
          go_meet
          case rel =>
            have e : allL x y (gridsOf la true) = Ls := HLS.out
            rw [e] at HL6 ⊢
            exact ⟨A6, c6, ts6, rfl, ⟨HL6.out.low (Nat.le_trans HI.out.bl.size HB5.out.size)⟩, ⟨(HI.out.ext HB5.out).ext HB6.out⟩⟩
      case rest =>
        obtain ⟨A5, c5, ts5, rfl, HL5, HI5⟩ := hcut
        clear HI hb2 hf2
        obtain ⟨wL, rfl⟩ : ∃ wL : World, wL = wc := ⟨_, rfl⟩
        go_wp2_with (first
          | (go_at_call 9; refine (new_walk w.heap.size x y wL HC.out HI5.out.bl.size).mono ?_; rintro e w2 ⟨cv, rfl, hcx, hcy, hI, hb2⟩; have HW0 := Aside0.mk (wh_new (w0 := w) (img := imgL x n) (la := la) (wo := wo) (by rw [HLS.out]; exact HL5.out) hb2 hI hcx hcy); have HCX := Aside0.mk (And.intro hcx hcy); clear hcx hcy hI hb2))
        rw [HLS.out] at HW0
        have HLN := Aside0.mk (show Ls.length ≤ 240 from by
          rw [← HLS.out]
          have h := allL_len x y (gridsOf la wo) (fun g hg => by have h := grids_ok la wo g hg; omega)
          have h2 : (gridsOf la wo).length ≤ 7 := by cases la <;> cases wo <;> decide
          have h3 := Nat.mul_le_mul h2 hy1.2
          omega)
        go_loopw [15, 18] (fun v i wr => ∃ (k : Nat) (A : Option Addr) (c : Nat) (ts : List Ln) (L : List (List S51)) (ps : List S45) (ks : List Bool), v = .slice A L.length c ∧ i = .int .i64 k ∧ k + L.length ≤ 1000 ∧ Aside0 (Wh w wL wr cv x y (imgL x n) (.slice A L.length c) ts L ps ks)) (fun v _ _ => match v with | .slice _ m _ => m | _ => 0)
        case atStart => exact ⟨0, A5, c5, ts5, Ls, _, _, rfl, rfl, by have := HLN.out; omega, HW0⟩
        case round =>
          clear HW0
          obtain ⟨i, A, c, ts, L, ps, ks, rfl, rfl, hi, HW⟩ := hrel
          obtain ⟨wo2, rfl⟩ : ∃ wo2 : World, wo2 = wr := ⟨_, rfl⟩
          obtain ⟨m, hm⟩ : ∃ m, L.length = m := ⟨_, rfl⟩
          have HM := Aside0.mk hm
          rw [hm] at hi HW ⊢
          clear hm
          by_cases hm0 : 0 < m
          · go_upto_if 81 with (fail)
            go_cut [19] from 73 to 137 (fun v19 wx => ∃ k : Nat, v19 = .int .i64 k ∧ k < m ∧ wo2 = wx)
            case first =>
              by_cases hio : i < l
              · obtain ⟨ad, rfl, hc⟩ := Kd.at_int (Kd.C_below HR.out (below_then HI5.out.bl HI5.out.bl.size HW.out.bl)) (i : Int) (by omega) (by omega)
                obtain ⟨o, ho⟩ : ∃ o, rd os (i : Int) = o := ⟨_, rfl⟩
                have hob : 0 ≤ o ∧ o ≤ 255 := by
                  rw [← ho]
                  exact HOS.out _ (by
                    unfold rd
                    rw [List.getD_eq_getElem?_getD, List.getElem?_eq_getElem (by rw [HLL.out]; omega)]
                    exact List.getElem_mem _)
                rw [ho] at hc
                simp only [Int.toNat_natCast] at hc
                obtain ⟨k, hk⟩ : ∃ k : Nat, o % (m : Int) = k := ⟨(o % (m : Int)).toNat, by have := Int.emod_nonneg o (show (m : Int) ≠ 0 by omega); omega⟩
                have hk2 : k < m := by have := Int.emod_lt_of_pos o (show (0 : Int) < m by omega); omega
                clear ho
                go_wp2
                go_meet
                case rel => exact ⟨k, by rw [hk], hk2, rfl⟩
              · go_wp2
                go_meet
                case rel => exact ⟨0, rfl, hm0, rfl⟩
            case rest =>
              obtain ⟨k, rfl, hk, rfl⟩ := hcut
              obtain ⟨hn1', hmc, hC⟩ := Kd.R_reads' HW.out.row
              rw [← hn1'] at hC
              obtain ⟨ad, rfl, ha0, ha1⟩ := kf_at hC k hk
              have HSP := Aside0.mk (HW.out.sp k (by rw [HM.out]; exact hk))
              obtain ⟨s, hs⟩ : ∃ s, L.getD k [] = s := ⟨_, rfl⟩
              obtain ⟨⟨f0, A6, n6, c6⟩, ht6⟩ : ∃ t, ts.getD k zL = t := ⟨_, rfl⟩
              rw [hs, ht6] at HSP
              rw [ht6] at ha0 ha1
              simp only at HSP ha0 ha1
              have HSL := Aside0.mk (show s.length = n6 from (Kd.R_reads' HSP.out).1.symm)
              have HREST := Aside0.mk (show Rest x y (L.take k ++ s :: L.drop (k + 1)) ks from by
                rw [← hs, ← split_at L k [] (by rw [HM.out]; exact hk)]
                exact HW.out.rest)
              have hn6 : n6 ≤ 30 := by have h := (HREST.out.inn s (by simp)).2.2; rw [HSL.out] at h; omega
              have hk0 : (0 : Int) ≤ (k : Int) := by omega
              have hk1 : (k : Int) < (m : Int) := by omega
              clear hC hn1' hs ht6
              go_wp2
              obtain ⟨wb, hwb⟩ : ∃ wb, wo2.alloc (.cells #[.int .i64 0, .slice A6 n6 c6, .slice none 0 0] 35) = wb := ⟨_, rfl⟩
              have HN0 := Aside0.mk (show N3 wo2 wb A6 n6 c6 (.slice none 0 0) (colsL x y (imgL x n) (s.take 0)) from by
                rw [← hwb]
                exact ⟨below_alloc (Below.refl _ _) _, heap_alloc_new _ _, Kd.R_nil _ _ _ _ _⟩)
              rw [hwb]
              clear hwb ha0 ha1
              go_loopw [99] (fun j wr => ∃ (t : Nat) (u : Value), j = .int .i64 t ∧ t ≤ n6 ∧ Aside0 (N3 wo2 wr A6 n6 c6 u (colsL x y (imgL x n) (s.take t)))) (fun j _ => n6 - (intOf j).toNat)
              case atStart => exact ⟨0, _, rfl, Nat.zero_le _, HN0⟩
              case round =>
                clear HN0
                obtain ⟨t, u, rfl, ht, HN⟩ := hrel
                obtain ⟨wi, rfl⟩ : ∃ wi : World, wi = wr := ⟨_, rfl⟩
                have HBL := Aside0.mk (show Below wL.heap.size wL wi from HW.out.bl.trans (HN.out.bl.mono HW.out.bl.size))
                by_cases hlt : t < n6
                · obtain ⟨X, Y, hq, hX, hY, hpl⟩ := spot_in (HREST.out.inn s (by simp)).1 t (by rw [HSL.out]; exact hlt)
                  obtain ⟨ad6, rfl, hc0, hc1⟩ := k51_at (Kd.C_below (by have h := (Kd.R_reads' HSP.out).2.2; rw [HSL.out] at h; exact h) HBL.out) t hlt
                  rw [hq] at hc0 hc1
                  have HQ := Aside0.mk hq
                  have HPL := Aside0.mk hpl
                  have hp : Y * x + X < n := by
                    have h1 : (Y + 1) * x ≤ y * x := Nat.mul_le_mul_right _ (by omega)
                    rw [Nat.add_mul, Nat.mul_comm y x, HN1.out] at h1
                    omega
                  obtain ⟨q, hq2⟩ : ∃ q, Y * x = q := ⟨_, rfl⟩
                  have hqi : (Y : Int) * (x : Int) = (q : Int) := by rw [← hq2]; push_cast; rfl
                  rw [hq2] at hp
                  have HQ2 := Aside0.mk hq2
                  clear hq hpl hq2
                  have HPX := Aside0.mk (pix_at (Kd.R_below HI5.out.row HW.out.bl) (q + X) hp)
                  have HI2 := Aside0.mk (blk_below HI5.out.bx HW.out.bl)
                  have hn2' := blk_cell HN.out.bx 2
                  have hn2f := blk_frozen HN.out.bx 2
                  have hcl : (colsL x y (imgL x n) (s.take t)).length ≤ 30 := by
                    have h1 := (HREST.out.inn s (by simp)).2.2
                    simp [colsL]
                    omega
                  obtain ⟨px, hpx⟩ : ∃ px, (imgL x n).getD (q + X) z45 = px := ⟨_, rfl⟩
                  rw [hpx] at HPX
                  have HCS := Aside0.mk (show colsL x y (imgL x n) (s.take (t + 1)) = colsL x y (imgL x n) (s.take t) ++ [px] from by
                    rw [colsL_succ _ _ _ _ _ (by rw [HSL.out]; exact hlt), HPL.out, HQ2.out, hpx])
                  have HCL := Aside0.mk (show (colsL x y (imgL x n) (s.take (t + 1))).length = t + 1 from by
                    have h1 := HSL.out
                    simp [colsL]
                    omega)
                  have hqx0 : (0 : Int) ≤ (q : Int) + (X : Int) := by omega
                  have hqx1 : (q : Int) + (X : Int) < (n : Int) := by omega
                  clear hpx
                  go_wp2
                  have HX51 := Aside0.mk (show (wi.alloc (.cells #[.int .i64 X, .int .i64 Y] 51)).heap[wi.heap.size]? = some (.cells #[.int .i64 X, .int .i64 Y] 51 (0, 0)) from heap_alloc_new _ _)
                  have HN4 := Aside0.mk (HN.out.ext (below_drew (below_alloc (Below.refl _ _) (.cells #[.int .i64 X, .int .i64 Y] 51))))
                  refine start_ (n := 17) (S := fun w' => w'.cell? ⟨wo2.heap.size, 2, none⟩ = some u ∧ w'.cell? ⟨w1.heap.size, 2, none⟩ = some (.slice (some ⟨gi, 0, none⟩) n ci) ∧ w'.cell? ⟨wi.heap.size, 0, none⟩ = some (.int .i64 X) ∧ w'.cell? ⟨wi.heap.size, 1, none⟩ = some (.int .i64 Y) ∧ w'.cell? ⟨gi, (q + X) * 4, none⟩ = some (.int .u16 px.f0) ∧ w'.cell? ⟨gi, (q + X) * 4 + 1, none⟩ = some (.int .u16 px.f1) ∧ w'.cell? ⟨gi, (q + X) * 4 + 2, none⟩ = some (.int .u16 px.f2) ∧ w'.cell? ⟨gi, (q + X) * 4 + 3, none⟩ = some (.int .u16 px.f3)) (ds := [16]) #[false, false, false, false, false, false, false, false, false, false, false, false, false, false, false, false, false] (by kernel_rfl) rfl rfl ⟨blk_cell HN4.out.bx 2, s25 HI2.out HPX.out HN4.out.bl (blk_drew HX51.out)⟩ (fun hHeld => ?_)
                  have HX4 := Aside0.mk (blk_drew HX51.out)
                  generalize (wi.alloc (.cells #[.int .i64 X, .int .i64 Y] 51)).drew = W4 at hHeld HN4 HX4 ⊢
                  have hwm : IntKind.i64.wrap (q : Int) = q := wrapI (by omega) (by omega)
                  have htn : ((q : Int) + (X : Int)).toNat = q + X := by omega
                  have hws : IntKind.i64.wrap ((q : Int) + (X : Int)) = q + X := wrapI (by omega) (by omega)
                  refine pure_ (i := 0) (N := some 103) (v := ?_) (a' := ?_) #[true, false, false, false, false, false, false, false, false, false, false, false, false, false, false, false, false] rfl rfl (by kernel_rfl) (fun _ _ _ h => h) (Or.inl ⟨by rfl, ?_⟩) ?_ ?_
                  rotate_left
                  · intro w'
                    go_simp
                    with_reducible rfl
                  rotate_left
                  · simp only [Act.put, List.setIfInBounds_toArray, List.set_cons_zero, List.set_cons_succ, i64_w, i32_w]
                    rfl
                  refine pure_ (i := 2) (N := some 105) (v := ?_) (a' := ?_) #[true, false, true, false, false, false, false, false, false, false, false, false, false, false, false, false, false] rfl rfl (by kernel_rfl) (fun _ _ _ h => h) (Or.inl ⟨by rfl, ?_⟩) ?_ ?_
                  rotate_left
                  · intro w'
                    go_simp
                    with_reducible rfl
                  rotate_left
                  · simp only [Act.put, List.setIfInBounds_toArray, List.set_cons_zero, List.set_cons_succ, i64_w, i32_w]
                    rfl
                  refine pure_ (i := 4) (N := some 107) (v := ?_) (a' := ?_) #[true, false, true, false, true, false, false, false, false, false, false, false, false, false, false, false, false] rfl rfl (by kernel_rfl) (fun _ _ _ h => h) (Or.inl ⟨by rfl, ?_⟩) ?_ ?_
                  rotate_left
                  · intro w'
                    go_simp
                    with_reducible rfl
                  rotate_left
                  · simp only [Act.put, List.setIfInBounds_toArray, List.set_cons_zero, List.set_cons_succ, i64_w, i32_w]
                    rfl
                  refine pure_ (i := 6) (N := some 109) (v := ?_) (a' := ?_) #[true, false, true, false, true, false, true, false, false, false, false, false, false, false, false, false, false] rfl rfl (by kernel_rfl) (fun _ _ _ h => h) (Or.inl ⟨by rfl, ?_⟩) ?_ ?_
                  rotate_left
                  · intro w'
                    go_simp
                    with_reducible rfl
                  rotate_left
                  · simp only [Act.put, List.setIfInBounds_toArray, List.set_cons_zero, List.set_cons_succ, i64_w, i32_w]
                    rfl
                  refine pure_ (i := 8) (N := some 111) (v := ?_) (a' := ?_) #[true, false, true, false, true, false, true, false, true, false, false, false, false, false, false, false, false] rfl rfl (by kernel_rfl) (fun _ _ _ h => h) (Or.inl ⟨by rfl, ?_⟩) ?_ ?_
                  rotate_left
                  · intro w'
                    go_simp
                    with_reducible rfl
                  rotate_left
                  · simp only [Act.put, List.setIfInBounds_toArray, List.set_cons_zero, List.set_cons_succ, i64_w, i32_w]
                    rfl
                  refine take_ (i := 1) (N := some 104) (v := ?_) (a' := ?_) #[true, true, true, false, true, false, true, false, true, false, false, false, false, false, false, false, false] rfl rfl (by kernel_rfl) (fun _ _ _ h => h) (Or.inl ⟨by rfl, ?_⟩) hHeld ?_ ?_
                  rotate_left
                  · rintro w' ⟨s0, s1, s2, s3, s4, s5, s6, s7⟩
                    go_simp
                    with_reducible rfl
                  rotate_left
                  · simp only [Act.put, List.setIfInBounds_toArray, List.set_cons_zero, List.set_cons_succ, i64_w, i32_w]
                    rfl
                  refine take_ (i := 3) (N := some 106) (v := ?_) (a' := ?_) #[true, true, true, true, true, false, true, false, true, false, false, false, false, false, false, false, false] rfl rfl (by kernel_rfl) (fun _ _ _ h => h) (Or.inl ⟨by rfl, ?_⟩) hHeld ?_ ?_
                  rotate_left
                  · rintro w' ⟨s0, s1, s2, s3, s4, s5, s6, s7⟩
                    go_simp
                    with_reducible rfl
                  rotate_left
                  · simp only [Act.put, List.setIfInBounds_toArray, List.set_cons_zero, List.set_cons_succ, i64_w, i32_w]
                    rfl
                  refine take_ (i := 5) (N := some 108) (v := ?_) (a' := ?_) #[true, true, true, true, true, true, true, false, true, false, false, false, false, false, false, false, false] rfl rfl (by kernel_rfl) (fun _ _ _ h => h) (Or.inl ⟨by rfl, ?_⟩) hHeld ?_ ?_
                  rotate_left
                  · rintro w' ⟨s0, s1, s2, s3, s4, s5, s6, s7⟩
                    go_simp
                    with_reducible rfl
                  rotate_left
                  · simp only [Act.put, List.setIfInBounds_toArray, List.set_cons_zero, List.set_cons_succ, i64_w, i32_w]
                    rfl
                  refine take_ (i := 9) (N := some 112) (v := ?_) (a' := ?_) #[true, true, true, true, true, true, true, false, true, true, false, false, false, false, false, false, false] rfl rfl (by kernel_rfl) (fun _ _ _ h => h) (Or.inl ⟨by rfl, ?_⟩) hHeld ?_ ?_
                  rotate_left
                  · rintro w' ⟨s0, s1, s2, s3, s4, s5, s6, s7⟩
                    go_simp
                    with_reducible rfl
                  rotate_left
                  · simp only [Act.put, List.setIfInBounds_toArray, List.set_cons_zero, List.set_cons_succ, i64_w, i32_w]
                    rfl
                  refine pure_ (i := 7) (N := some 110) (v := ?_) (a' := ?_) #[true, true, true, true, true, true, true, true, true, true, false, false, false, false, false, false, false] rfl rfl (by kernel_rfl) (fun _ _ _ h => h) (Or.inl ⟨by rfl, ?_⟩) ?_ ?_
                  rotate_left
                  · intro w'
                    go_simp
                    with_reducible rfl
                  rotate_left
                  · simp only [Act.put, List.setIfInBounds_toArray, List.set_cons_zero, List.set_cons_succ, i64_w, i32_w]
                    rfl
                  refine pure_ (i := 10) (N := some 113) (v := ?_) (a' := ?_) #[true, true, true, true, true, true, true, true, true, true, true, false, false, false, false, false, false] rfl rfl (by kernel_rfl) (fun _ _ _ h => h) (Or.inl ⟨by rfl, ?_⟩) ?_ ?_
                  rotate_left
                  · intro w'
                    go_simp
                    with_reducible rfl
                  rotate_left
                  · simp only [Act.put, List.setIfInBounds_toArray, List.set_cons_zero, List.set_cons_succ, i64_w, i32_w]
                    rfl
                  refine pure_ (i := 11) (N := some 114) (v := ?_) (a' := ?_) #[true, true, true, true, true, true, true, true, true, true, true, true, false, false, false, false, false] rfl rfl (by kernel_rfl) (fun _ _ _ h => h) (Or.inl ⟨by rfl, ?_⟩) ?_ ?_
                  rotate_left
                  · intro w'
                    go_simp
                    with_reducible rfl
                  rotate_left
                  · simp only [Act.put, List.setIfInBounds_toArray, List.set_cons_zero, List.set_cons_succ, i64_w, i32_w]
                    rfl
                  refine take_ (i := 12) (N := some 115) (v := ?_) (a' := ?_) #[true, true, true, true, true, true, true, true, true, true, true, true, true, false, false, false, false] rfl rfl (by kernel_rfl) (fun _ _ _ h => h) (Or.inl ⟨by rfl, ?_⟩) hHeld ?_ ?_
                  rotate_left
                  · rintro w' ⟨s0, s1, s2, s3, s4, s5, s6, s7⟩
                    go_simp
                    with_reducible rfl
                  rotate_left
                  · simp only [Act.put, List.setIfInBounds_toArray, List.set_cons_zero, List.set_cons_succ, i64_w, i32_w]
                    rfl
                  have hAl : Below W4.heap.size W4 (W4.alloc (.cells #[.int .u16 px.f0, .int .u16 px.f1, .int .u16 px.f2, .int .u16 px.f3] 45)) := (Below.refl _ _).alloc (Nat.le_refl _) _
                  refine one_ (i := 13) (N := some 116) #[true, true, true, true, true, true, true, true, true, true, true, true, true, true, false, false, false] rfl rfl (by kernel_rfl) (by decide) (fun K hK => ?_)
                  refine value_ (w1 := ?_) (v := ?_) (by rfl) rfl ?_ ?_
                  rotate_left 2
                  · go_simp
                    constructor
                    · rfl
                    · rfl
                  refine hK.out _ _ ⟨blk_cell (blk_below HN4.out.bx hAl) 2, s25 HI2.out HPX.out (below_then HN4.out.bl HN4.out.bl.size hAl) (blk_below HX4.out hAl)⟩ (fun hHeld2 => ?_)
                  clear hK K
                  refine norm_ (a' := ?_) ?_ ?_
                  rotate_left
                  · show Act.put _ (some 116) _ = _
                    simp only [Act.put, List.setIfInBounds_toArray, List.set_cons_zero, List.set_cons_succ, i64_w, i32_w]
                    rfl
                  refine one_ (i := 14) (N := some 117) #[true, true, true, true, true, true, true, true, true, true, true, true, true, true, true, false, false] rfl rfl (by kernel_rfl) (by decide) (fun K hK => ?_)
                  refine Kd.R_append_step k45 (w0 := wo2) (W := W4) wo2.heap.size (by rfl) (.tmp 104) (.tmp 116) 33 45 (.agg #[.int .u16 0, .int .u16 0, .int .u16 0, .int .u16 0]) 8 rfl Try.underlying33 info45_ rfl (by decide) (by decide) u (colsL x y (imgL x n) (s.take t)) px [.int .u16 px.f0, .int .u16 px.f1, .int .u16 px.f2, .int .u16 px.f3] (fun k => wo2.heap.size ≤ k) (fun _ => False) rfl rfl (k45_mkM _ _ _ px) (fun _ hk => hk.elim) (fun k hk => Nat.le_trans HN4.out.bl.size hk) HN4.out.row HN4.out.bl HN4.out.bl.size (by omega) ?_
                  intro v14 w14 ho hb14 hg hat
                  rw [← HCS.out] at ho
                  obtain ⟨A14, c14, rfl, hr14⟩ := row_form HCL.out ho
                  have hx14 := blk_grown HX4.out hg (Kd.R_ne HN4.out.row HX4.out (by decide))
                  have hn14 := blk_grown HN4.out.bx hg (Kd.R_ne HN4.out.row HN4.out.bx (by decide))
                  have HN14 := Aside0.mk (HN4.out.push hg hb14 hr14)
                  have hm2 := blk_cell hn14 2
                  have hm2f := blk_frozen hn14 2
                  refine hK.out _ _ ⟨blk_cell hn14 2, s25 HI2.out HPX.out hb14 hx14⟩ (fun hHeld3 => ?_)
                  clear hK K
                  refine norm_ (a' := ?_) ?_ ?_
                  rotate_left
                  · show Act.put _ (some 117) _ = _
                    simp only [Act.put, List.setIfInBounds_toArray, List.set_cons_zero, List.set_cons_succ, i64_w, i32_w]
                    rfl
                  refine pure_ (i := 15) (N := some 118) (v := ?_) (a' := ?_) #[true, true, true, true, true, true, true, true, true, true, true, true, true, true, true, true, false] rfl rfl (by kernel_rfl) (fun _ _ _ h => h) (Or.inl ⟨by rfl, ?_⟩) ?_ ?_
                  rotate_left
                  · intro w'
                    go_simp
                    with_reducible rfl
                  rotate_left
                  · simp only [Act.put, List.setIfInBounds_toArray, List.set_cons_zero, List.set_cons_succ, i64_w, i32_w]
                    rfl
                  refine last_ (i := 16) (N := none) #[true, true, true, true, true, true, true, true, true, true, true, true, true, true, true, true, true] rfl rfl (by kernel_rfl) (by decide) (fun K hK => ?_)
                  refine skip_ (w1 := ?_) (by rfl) rfl ?_ ?_
                  rotate_left
                  · go_simp
                    rfl
                  refine hK.out _ _ ?_
                  clear hK K
                  refine done_ (by kernel_rfl) ?_
                  go_wp2
                  exact ⟨⟨t + 1, _, by push_cast; rfl, by omega, HN14⟩, by simp [intOf]; omega⟩
                · obtain rfl : n6 = t := by omega
                  have HCX2 := Aside0.mk (show cv.n = n by unfold Cv.n; rw [HCX.out.1, HCX.out.2, HN1.out])
                  have hcols : (colsL x y (imgL x n) (s.take n6)).length = n6 := by have := HSL.out; simp [colsL]; omega
                  have hfin : s.take n6 = s := List.take_of_length_le (by rw [HSL.out]; exact Nat.le_refl _)
                  rw [hfin] at hcols HN
                  obtain ⟨A7, c7, rfl, hr7⟩ := row_form hcols HN.out.row
                  have HCOL := Aside0.mk hcols
                  have HR7 := Aside0.mk hr7
                  have hx0 := blk_cell HN.out.bx 0
                  have hx1' := blk_cell HN.out.bx 1
                  have hx2 := blk_cell HN.out.bx 2
                  have HCV := Aside0.mk (HW.out.cv.ext HN.out.bl)
                  have HNF := Aside0.mk (HREST.out.notFull (by rw [List.length_append, List.length_cons]; omega))
                  have HFULL := Aside0.mk (show Calls Try.prog 19 #[.pointer (some ⟨cv.g, 0, none⟩)] wi fun e w' => e = .returned (.bool false) ∧ Drawn0 wi w' from by
                    refine (full_walk HCV.out).mono ?_
                    rintro e w' ⟨rfl, hd⟩
                    have h1 : (((cntL ks : Nat) : Int) == (cv.n : Int)) = false := by
                      have h2 := HNF.out
                      rw [HN1.out] at h2
                      rw [HCX2.out]
                      simp
                      omega
                    rw [h1]
                    exact ⟨rfl, hd⟩)
                  have HSG := Aside0.mk (show ∀ k, cv.S k → wL.heap.size ≤ k ∧ k < wo2.heap.size from by
                    have h1 := HW.out.cv.ge
                    have h2 := HW.out.cv.gpge
                    have h3 := HW.out.cv.gkge
                    have h4 := HW.out.cv.lt
                    rintro k (rfl | rfl | rfl) <;> omega)
                  have HLAY := Aside0.mk (show ∀ q, Calls Try.prog 12 #[.pointer (some ⟨cv.g, 0, none⟩), .agg #[.int .i64 0, .slice A6 n6 c6, .slice A7 n6 c7]] (wi.drewN q) fun e w' => LayP (wi.drewN q) wL.heap.size cv (0, cntL ks + n6, putL ps (spotsIn x y s) (colsL x y (imgL x n) s), markL ks (spotsIn x y s)) e w' from fun q => by
                    have h1 := HREST.out.lay (cntL ks) ps (colsL x y (imgL x n) s) (by rw [HSL.out, HCOL.out])
                    rw [HSL.out] at h1
                    exact lay_mid (wo := wo2) (HCV.out.drewN q) HSG.out HSP.out (pw_below_drewN HBL.out q) (Kd.R_drewN HR7.out q) HSL.out HCOL.out hn6 (by rw [HCX.out.1, HCX.out.2]; exact h1))
                  clear hfin hcols hr7
                  go_wp2_with (first
                    | (go_at_call 19; refine HFULL.out.mono ?_; rintro e w8 ⟨rfl, q8, rfl⟩)
                    | (go_at_call 12; refine (HLAY.out _).mono ?_; rintro e w9 ⟨rfl, h1, h2, h3⟩; have HL1 := Aside0.mk h1; have HL2 := Aside0.mk h2; have HL3 := Aside0.mk h3; clear h1 h2 h3))
                  have HCVq := Aside0.mk (HCV.out.drewN q8)
                  have HTSL := Aside0.mk (show ts.length = m from by rw [HW.out.len, HM.out])
                  have HRW := Aside0.mk (Kd.R_drew (R_keptT (Kd.R_drewN (Kd.R_below HW.out.row HN.out.bl) q8) HL2.out (HCVq.out.types (by decide))))
                  have HBW := Aside0.mk (below_drew ((pw_below_drewN HBL.out q8).trans HL3.out))
                  have HC9 := Aside0.mk (HL1.out.ext (below_drew (Below.refl _ _)))
                  have HRML := Aside0.mk (show (ts.take k ++ ts.drop (k + 1)).length = m - 1 from by rw [len_rm ts k (by rw [HTSL.out]; exact hk), HTSL.out])
                  have HTKL := Aside0.mk (show (ts.take k).length = k from by have := HTSL.out; rw [List.length_take]; omega)
                  obtain ⟨Ad, hAd⟩ : ∃ Ad, (if c = k + 1 then some ad else (some ad).map (·.add ((k + 1) * 2))) = Ad := ⟨_, rfl⟩
                  obtain ⟨i49, hi49, hz49⟩ := Option.map_eq_some_iff.1 info49_
                  have hsz49 : i49.size = 2 := by simp only [Prod.mk.injEq] at hz49; exact hz49.2.1
                  have hmc9 : m ≤ c := hmc
                  have hct := cut_to (P := Try.prog) 46 49 .i64 Try.underlying46 hi49 (some ad) m c (k : Int) (by omega) (by omega) hmc9
                  have hcf := cut_from (P := Try.prog) 46 49 .i64 Try.underlying46 hi49 2 hsz49 (some ad) m c ((k : Int) + 1) (by omega) (by omega)
                  rw [show ((k : Int) + 1).toNat = k + 1 by omega, hAd] at hcf
                  rw [Int.toNat_natCast] at hct
                  have hwk : IntKind.i64.wrap ((k : Int) + 1) = k + 1 := wrapI (by omega) (by omega)
                  have HTD := Aside0.mk (show Kd.C kf w9.drew (some ad) k (ts.take k) ∧ Kd.C kf w9.drew Ad (m - (k + 1)) (ts.drop (k + 1)) from by
                    obtain ⟨h1, h2, h3⟩ := Kd.R_reads' HRW.out
                    have h4 := Kd.C_take h3 (m := k) (by have := HTSL.out; omega)
                    have h5 := Kd.C_drop h3 (m := k + 1) (c := c) (by have := HTSL.out; omega) (by have := HTSL.out; omega)
                    rw [HTKL.out] at h4
                    rw [List.length_drop, HTSL.out, show kf.sz = 2 from rfl, hAd] at h5
                    exact ⟨h4, h5⟩)
                  clear hAd hi49 hz49 hsz49
                  refine start_ (n := 11) (S := fun _ => True) (ds := []) #[false, false, false, false, false, false, false, false, false, false, false] (by kernel_rfl) rfl rfl trivial (fun hHeld => ?_)
                  generalize w9.drew = w10 at HTD HRW HBW HC9 ⊢
                  have HTK := Aside0.mk HTD.out.1
                  have HDR := Aside0.mk HTD.out.2
                  refine pure_ (i := 1) (N := some 129) (v := ?_) (a' := ?_) #[false, true, false, false, false, false, false, false, false, false, false] rfl rfl (by kernel_rfl) (fun _ _ _ h => h) (Or.inl ⟨by rfl, ?_⟩) ?_ ?_
                  rotate_left
                  · intro w'
                    go_simp
                    with_reducible rfl
                  rotate_left
                  · simp only [Act.put, List.setIfInBounds_toArray, List.set_cons_zero, List.set_cons_succ, i64_w, i32_w]
                    rfl
                  refine pure_ (i := 2) (N := some 130) (v := ?_) (a' := ?_) #[false, true, true, false, false, false, false, false, false, false, false] rfl rfl (by kernel_rfl) (fun _ _ _ h => h) (Or.inl ⟨by rfl, ?_⟩) ?_ ?_
                  rotate_left
                  · intro w'
                    go_simp
                    with_reducible rfl
                  rotate_left
                  · simp only [Act.put, List.setIfInBounds_toArray, List.set_cons_zero, List.set_cons_succ, i64_w, i32_w]
                    rfl
                  refine pure_ (i := 5) (N := some 133) (v := ?_) (a' := ?_) #[false, true, true, false, false, true, false, false, false, false, false] rfl rfl (by kernel_rfl) (fun _ _ _ h => h) (Or.inl ⟨by rfl, ?_⟩) ?_ ?_
                  rotate_left
                  · intro w'
                    go_simp
                    with_reducible rfl
                  rotate_left
                  · simp only [Act.put, List.setIfInBounds_toArray, List.set_cons_zero, List.set_cons_succ, i64_w, i32_w]
                    rfl
                  refine pure_ (i := 6) (N := some 134) (v := ?_) (a' := ?_) #[false, true, true, false, false, true, true, false, false, false, false] rfl rfl (by kernel_rfl) (fun _ _ _ h => h) (Or.inl ⟨by rfl, ?_⟩) ?_ ?_
                  rotate_left
                  · intro w'
                    go_simp
                    with_reducible rfl
                  rotate_left
                  · simp only [Act.put, List.setIfInBounds_toArray, List.set_cons_zero, List.set_cons_succ, i64_w, i32_w]
                    rfl
                  refine pure_ (i := 7) (N := some 135) (v := ?_) (a' := ?_) #[false, true, true, false, false, true, true, true, false, false, false] rfl rfl (by kernel_rfl) (fun _ _ _ h => h) (Or.inl ⟨by rfl, ?_⟩) ?_ ?_
                  rotate_left
                  · intro w'
                    go_simp
                    with_reducible rfl
                  rotate_left
                  · simp only [Act.put, List.setIfInBounds_toArray, List.set_cons_zero, List.set_cons_succ, i64_w, i32_w]
                    rfl
                  refine pure_ (i := 3) (N := some 131) (v := ?_) (a' := ?_) #[false, true, true, true, false, true, true, true, false, false, false] rfl rfl (by kernel_rfl) (fun _ _ _ h => h) (Or.inl ⟨by rfl, ?_⟩) ?_ ?_
                  rotate_left
                  · intro w'
                    go_simp
                    with_reducible rfl
                  rotate_left
                  · simp only [Act.put, List.setIfInBounds_toArray, List.set_cons_zero, List.set_cons_succ, i64_w, i32_w]
                    rfl
                  refine pure_ (i := 8) (N := some 136) (v := ?_) (a' := ?_) #[false, true, true, true, false, true, true, true, true, false, false] rfl rfl (by kernel_rfl) (fun _ _ _ h => h) (Or.inl ⟨by rfl, ?_⟩) ?_ ?_
                  rotate_left
                  · intro w'
                    go_simp
                    with_reducible rfl
                  rotate_left
                  · simp only [Act.put, List.setIfInBounds_toArray, List.set_cons_zero, List.set_cons_succ, i64_w, i32_w]
                    rfl
                  refine one_ (i := 0) (N := some 128) #[true, true, true, true, false, true, true, true, true, false, false] rfl rfl (by kernel_rfl) (by decide) (fun K hK => ?_)
                  refine value_ (w1 := w10.alloc (.cells #[] 49)) (v := .slice (some ⟨w10.heap.size, 0, none⟩) 0 0) (by rfl) rfl ?_ ?_
                  · go_simp
                  refine hK.out _ _ trivial (fun _ => ?_)
                  clear hK K
                  refine norm_ (a' := ?_) ?_ ?_
                  rotate_left
                  · show Act.put _ (some 128) _ = _
                    simp only [Act.put, List.setIfInBounds_toArray, List.set_cons_zero, List.set_cons_succ, i64_w, i32_w]
                    rfl
                  refine one_ (i := 4) (N := some 132) #[true, true, true, true, true, true, true, true, true, false, false] rfl rfl (by kernel_rfl) (by decide) (fun K hK => ?_)
                  refine app_lit kf (wa := w10) (by rfl) (.tmp 128) (.tmp 131) 46 49 (.agg #[.int .i64 0, .slice none 0 0]) 32 rfl Try.underlying46 info49_ rfl (by decide) (by decide) w10.heap.size (ts.take k) (some ad) k c (by rfl) (by rfl) (heap_alloc_new _ _) (Nat.le_refl _) (below_alloc (Below.refl _ _) _) HTK.out kf_KM (by omega) ?_
                  intro A8 c8 w11 hR8 hB8 hG8 hO8
                  refine hK.out _ _ trivial (fun _ => ?_)
                  clear hK K
                  refine norm_ (a' := ?_) ?_ ?_
                  rotate_left
                  · show Act.put _ (some 132) _ = _
                    simp only [Act.put, List.setIfInBounds_toArray, List.set_cons_zero, List.set_cons_succ, i64_w, i32_w]
                    rfl
                  refine one_ (i := 9) (N := some 137) #[true, true, true, true, true, true, true, true, true, true, false] rfl rfl (by kernel_rfl) (by decide) (fun K hK => ?_)
                  refine Kd.R_append_rows_step kf (w0 := w10) w10.heap.size (by rfl) (.tmp 132) (.tmp 136) 46 49 (.agg #[.int .i64 0, .slice none 0 0]) 32 rfl Try.underlying46 info49_ rfl (by decide) (by decide) (.slice A8 k c8) (ts.take k) (ts.drop (k + 1)) Ad (m - (k + 1)) (c - (k + 1)) (fun q => w10.heap.size ≤ q) (fun _ => False) (by rfl) (by rfl) hR8 (Kd.C_below HDR.out hB8) (fun _ _ h => kf_KM h) (fun _ h => h.elim) (fun q hq => Nat.le_trans hB8.size hq) hB8 hB8.size (by rw [HTKL.out]; omega) ?_
                  intro v12 w12 ho12 hB12 hg12 hat12
                  obtain ⟨A12, c12, rfl, hr12⟩ := row_form HRML.out ho12
                  refine hK.out _ _ trivial (fun _ => ?_)
                  clear hK K
                  refine norm_ (a' := ?_) ?_ ?_
                  rotate_left
                  · show Act.put _ (some 137) _ = _
                    simp only [Act.put, List.setIfInBounds_toArray, List.set_cons_zero, List.set_cons_succ, i64_w, i32_w]
                    rfl
                  refine pure_ (i := 10) (N := some 15) (v := ?_) (a' := ?_) #[true, true, true, true, true, true, true, true, true, true, true] rfl rfl (by kernel_rfl) (fun _ _ _ h => h) (Or.inl ⟨by rfl, ?_⟩) ?_ ?_
                  rotate_left
                  · intro w'
                    go_simp
                    with_reducible rfl
                  rotate_left
                  · simp only [Act.put, List.setIfInBounds_toArray, List.set_cons_zero, List.set_cons_succ, i64_w, i32_w]
                    rfl
                  refine done_ (by kernel_rfl) ?_
                  have HW12 := Aside0.mk (HW.out.step (v2 := .slice A12 (m - 1) c12) k HREST.out (by rw [HM.out]; exact hk) (by rw [HW.out.cv.lp.symm, HCX2.out, HN1.out]) (HBW.out.trans (hB12.mono HBW.out.size)) (by rw [HSL.out]; exact HC9.out.ext hB12) (Kd.R_lower (Kd.R_mono hr12 (fun _ _ => trivial)) (Nat.le_trans HI5.out.bl.size HBW.out.size)))
                  have hm1 := len_rm L k (by rw [HM.out]; exact hk)
                  rw [HM.out] at hm1
                  clear hct hcf hr12 ho12 hB12 hg12 hat12 hR8 hB8 hG8 hO8
                  go_wp2
                  exact ⟨⟨i + 1, A12, c12, _, L.take k ++ L.drop (k + 1), _, _, by rw [hm1], by push_cast; rfl, by rw [hm1]; omega, ⟨by rw [hm1]; exact HW12.out⟩⟩, by show m - 1 < m; omega⟩
          · obtain rfl : m = 0 := by omega
            have hL0 : L = [] := List.eq_nil_of_length_eq_zero HM.out
            have hRE : Rest x y [] ks := by have h := HW.out.rest; rwa [hL0] at h
            have hall : ∀ p, p < n → ks.getD p false = true := fun p hp => hRE.full p (by rw [HN1.out]; exact hp)
            have hcvn : cv.n = n := by unfold Cv.n; rw [HCX.out.1, HCX.out.2, HN1.out]
            have hpl : ps.length = n := by rw [← hcvn]; exact HW.out.cv.lp.symm
            obtain rfl : ps = imgL x n := pic_all hpl (imgL_length x n) HW.out.pic hall
            have HF := Aside0.mk (show ∀ W, Below wo2.heap.size wo2 W → Calls Try.prog 19 #[.pointer (some ⟨cv.g, 0, none⟩)] W fun e w' => e = .returned (.bool true) ∧ Drawn0 W w' from fun W hb => by
              refine (full_walk (HW.out.cv.ext hb)).mono ?_
              rintro e w' ⟨rfl, hd⟩
              have h1 : (((cntL ks : Nat) : Int) == (cv.n : Int)) = true := by
                rw [cntL_full (fun p hp => hall p (by have := hRE.len; rw [HN1.out] at this; omega)), hRE.len, HN1.out, hcvn]
                simp
              rw [h1]
              exact ⟨rfl, hd⟩)
            have HIm := Aside0.mk (show ∀ W, Below wo2.heap.size wo2 W → Calls Try.prog 20 #[.pointer (some ⟨cv.g, 0, none⟩)] W fun e w' => ToldI wo2 x y n (imgL x n) e w' from fun W hb => by
              refine (image_walk (HW.out.cv.ext hb) (by rw [hcvn]; exact hn1)).mono (fun e w' h => ?_)
              rw [HCX.out.1, HCX.out.2] at h
              exact told_of hb (imgL_length x n) h)
            have HVi := Aside0.mk (show ∀ W, Below wo2.heap.size wo2 W → Calls Try.prog 15 #[.pointer (some ⟨cv.g, 0, none⟩), .bool wo] W fun e w' => ToldI wo2 x y n (imgL x n) e w' from fun W hb => by
              refine (view_walk (HW.out.cv.ext hb) (by rw [hcvn]; exact hn1) wo).mono (fun e w' h => ?_)
              rw [hcvn, HCX.out.1, HCX.out.2, view_full HN1.out (imgL x n) ks wo (imgL_length x n) hall] at h
              exact told_of hb (imgL_length x n) h)
            have HSm := Aside0.mk (show ∀ W (g c : Nat), Below wo2.heap.size wo2 W → n ≤ c → Kd.C k45 W (some ⟨g, 0, none⟩) n (imgL x n) → Calls Try.prog 14 #[.agg #[.int .i64 x, .int .i64 y, .slice (some ⟨g, 0, none⟩) n c], .agg #[.int .i64 x, .int .i64 y, .slice (some ⟨gi, 0, none⟩) n ci]] W fun e w' => e = .returned (.bool true) ∧ Below wo2.heap.size wo2 w' from fun W g c hb hc hC => by
              obtain ⟨_, h2, h3⟩ := Kd.R_reads' HI5.out.row
              rw [imgL_length] at h3
              refine (same_img W x y (imgL x n) (imgL_length x n) (by omega) (some ⟨g, 0, none⟩) c (some ⟨gi, 0, none⟩) ci hC hc (Kd.C_below (Kd.C_below h3 HW.out.bl) hb) h2).mono ?_
              rintro e w' ⟨rfl, hb2⟩
              exact ⟨rfl, below_then hb hb.size hb2⟩)
            have HBX := Aside0.mk (blk_below HI5.out.bx HW.out.bl)
            have HEND := Aside0.mk (show Below w.heap.size w wo2 from below_then HI5.out.bl HI5.out.bl.size HW.out.bl)
            clear hL0 hRE hall hcvn hpl
            go_wp2
            go_region_held3 (fun w' => w'.cell? ⟨w1.heap.size, 0, none⟩ = some (.int .i64 x) ∧ w'.cell? ⟨w1.heap.size, 1, none⟩ = some (.int .i64 y) ∧ w'.cell? ⟨w1.heap.size, 2, none⟩ = some (.slice (some ⟨gi, 0, none⟩) n ci)) ((refine box39 HBX.out ?_; (repeat (first | exact Below.refl _ _ | exact HBd.out | exact HBc.out | exact HBb.out | exact HBa.out | (with_reducible refine pw_below_drewN ?_ _) | (with_reducible refine below_drew ?_))))) (first
              | (go_at_call 19; refine (HF.out _ ?f1).mono ?_; (case f1 => (repeat (first | exact Below.refl _ _ | exact HBd.out | exact HBc.out | exact HBb.out | exact HBa.out | (with_reducible refine pw_below_drewN ?_ _) | (with_reducible refine below_drew ?_)))); rintro e w7 ⟨rfl, q7, rfl⟩)
              | (go_at_call 20; refine (HIm.out _ ?f2).mono ?_; (case f2 => (repeat (first | exact Below.refl _ _ | exact HBd.out | exact HBc.out | exact HBb.out | exact HBa.out | (with_reducible refine pw_below_drewN ?_ _) | (with_reducible refine below_drew ?_)))); rintro e w8 ⟨g8, c8, rfl, hc8, hC8, hb8⟩; have HC8 := Aside0.mk hC8; have HBa := Aside0.mk hb8; clear hC8 hb8)
              | (go_at_call 15; refine (HVi.out _ ?f3).mono ?_; (case f3 => (repeat (first | exact Below.refl _ _ | exact HBd.out | exact HBc.out | exact HBb.out | exact HBa.out | (with_reducible refine pw_below_drewN ?_ _) | (with_reducible refine below_drew ?_)))); rintro e w10 ⟨g10, c10, rfl, hc10, hC10, hb10⟩; have HC10 := Aside0.mk hC10; have HBc := Aside0.mk hb10; clear hC10 hb10)
              | (go_at_call 14; with_reducible refine (HSm.out _ g10 c10 ?f7 hc10 ?f8).mono ?_; (case f7 => (repeat (first | exact Below.refl _ _ | exact HBd.out | exact HBc.out | exact HBb.out | exact HBa.out | (with_reducible refine pw_below_drewN ?_ _) | (with_reducible refine below_drew ?_)))); (case f8 => (repeat (first | exact HC10.out | (with_reducible refine Kd.C_drewN ?_ _) | (with_reducible refine Kd.C_drew ?_)))); rintro e w11 ⟨rfl, hb11⟩; have HBd := Aside0.mk hb11; clear hb11)
              | (go_at_call 14; with_reducible refine (HSm.out _ g8 c8 ?f5 hc8 ?f6).mono ?_; (case f5 => (repeat (first | exact Below.refl _ _ | exact HBd.out | exact HBc.out | exact HBb.out | exact HBa.out | (with_reducible refine pw_below_drewN ?_ _) | (with_reducible refine below_drew ?_)))); (case f6 => (repeat (first | exact HC8.out | (with_reducible refine Kd.C_drewN ?_ _) | (with_reducible refine Kd.C_drew ?_)))); rintro e w9 ⟨rfl, hb9⟩; have HBb := Aside0.mk hb9; clear hb9))
            go_wp2
            go_ret
            exact ⟨rfl, below_then HEND.out HEND.out.size HBd.out⟩
theorem whole_said (a b : Int) (la wo : Bool) (A4 : Option Addr) (c4 : Nat) (os : List Int) (w : World) (hw0 : (Lit.int .u8 a).wf = true) (hw1 : (Lit.int .u8 b).wf = true) (hr : Kd.C (Kd.int .u8) w A4 os.length os) (hc4 : os.length ≤ c4)
    (h : os.length ≤ 9223372036854775807 ∧ os.length * 1 ≤ 140737488351232 ∧ ∀ x ∈ os, (Lit.int .u8 x).wf = true) :
    Calls Try.prog 4 #[.int .u8 a, .int .u8 b, .bool la, .bool wo, .slice A4 os.length c4] w fun e w' => e = .returned (.bool true) ∧ Below w.heap.size w w' :=
  whole_row a b la wo A4 c4 os w (Go.bounds_u8 hw0) (Go.bounds_u8 hw1) hr hc4 (fun o ho => Go.bounds_u8 (h.2.2 o ho))
end Go.Proofs.Ytmeafgoifekffaa.Lib
