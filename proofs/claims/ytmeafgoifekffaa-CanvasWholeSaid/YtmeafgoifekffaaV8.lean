/- canvas: View: what its rounds keep. -/
import Derived.Test.YtmeafgoifekffaaV7
namespace Go.Proofs.Ytmeafgoifekffaa.Lib
open Go.RowKit Go.Shelf Go.Proofs.YtmeafgoifekffaaW.PrintWords Go.Proofs.YtmeafgoifekffaaW.PrintLast Go.Proofs.YtmeafgoifekffaaW.PrintMore
set_option linter.unusedVariables false
set_option linter.unusedSimpArgs false
/-- what is seen at a place, if it is known -/
def seeL (x y : Nat) (ps : List S45) (ks : List Bool) (q : Nat × Nat) : Option S45 := if (atL x y ps ks q.1 q.2).2 = true then some (atL x y ps ks q.1 q.2).1 else none
/-- a pixel of the view -/
def viewAt (x y : Nat) (ps : List S45) (ks : List Bool) (wv : Bool) (i : Nat) : S45 := ((nearL (i % x) (i / x) wv).findSome? (seeL x y ps ks)).getD (ps.getD i z45)
def viewTo (x y : Nat) (ps : List S45) (ks : List Bool) (wv : Bool) (k : Nat) : List S45 := ps.mapIdx fun i p => if i < k then viewAt x y ps ks wv i else p
theorem viewTo_zero (x y : Nat) (ps : List S45) (ks : List Bool) (wv : Bool) : viewTo x y ps ks wv 0 = ps := by
  apply List.ext_getElem (by simp [viewTo])
  intro i h1 h2
  simp [viewTo]
theorem viewTo_length (x y : Nat) (ps : List S45) (ks : List Bool) (wv : Bool) (k : Nat) : (viewTo x y ps ks wv k).length = ps.length := by simp [viewTo]
theorem viewTo_succ (x y : Nat) (ps : List S45) (ks : List Bool) (wv : Bool) (k : Nat) : viewTo x y ps ks wv (k + 1) = (viewTo x y ps ks wv k).set k (viewAt x y ps ks wv k) := by
  apply List.ext_getElem (by simp [viewTo])
  intro i h1 h2
  rw [List.getElem_set]
  simp only [viewTo, List.getElem_mapIdx]
  by_cases e : k = i
  · subst e
    rw [if_pos (by omega), if_pos rfl]
  · rw [if_neg e]
    by_cases h : i < k
    · rw [if_pos (by omega), if_pos h]
    · rw [if_neg (by omega), if_neg h]
theorem viewTo_none (x y : Nat) (ps : List S45) (ks : List Bool) (wv : Bool) (k : Nat) (h : ∀ q ∈ nearL (k % x) (k / x) wv, seeL x y ps ks q = none) : viewTo x y ps ks wv (k + 1) = viewTo x y ps ks wv k := by
  have e : viewAt x y ps ks wv k = ps.getD k z45 := by
    unfold viewAt
    rw [List.findSome?_eq_none_iff.2 h]
    rfl
  apply List.ext_getElem (by simp [viewTo])
  intro i h1 h2
  simp only [viewTo, List.getElem_mapIdx]
  by_cases h : i < k
  · rw [if_pos (by omega), if_pos h]
  · rw [if_neg h]
    by_cases h3 : i < k + 1
    · obtain rfl : i = k := by omega
      rw [if_pos h3, e]
      simp only [viewTo, List.length_mapIdx] at h1
      rw [List.getD_eq_getElem?_getD, List.getElem?_eq_getElem h1, Option.getD_some]
    · rw [if_neg h3]
theorem viewAt_some (x y : Nat) (ps : List S45) (ks : List Bool) (wv : Bool) (k : Nat) (init : List (Nat × Nat)) (q : Nat × Nat) (p : S45) (h : init ++ [q] <+: nearL (k % x) (k / x) wv) (hi : ∀ r ∈ init, seeL x y ps ks r = none) (hq : seeL x y ps ks q = some p) : viewAt x y ps ks wv k = p := by
  obtain ⟨t, ht⟩ := h
  unfold viewAt
  rw [← ht, List.append_assoc, List.findSome?_append, List.findSome?_eq_none_iff.2 hi]
  simp [hq]
/-- between two rounds of View -/
structure VS (w0 wr : World) (n₀ : Nat) (c : Cv) (cnt : Nat) (ps : List S45) (ks : List Bool) (b5 gp2 cp2 : Nat) (out : List S45) : Prop where
  cv : IsCv wr n₀ c cnt ps ks
  bl : Below w0.heap.size w0 wr
  box : wr.heap[w0.heap.size]? = some (.cells #[.pointer (some ⟨c.g, 0, none⟩)] 24 (0, 0))
  res : wr.heap[w0.heap.size + 1]? = some (.cells #[.int .i64 0, .int .i64 0, .slice none 0 0] 39 (0, 0))
  img : wr.heap[b5]? = some (.cells #[.int .i64 c.x, .int .i64 c.y, .slice (some ⟨gp2, 0, none⟩) c.n cp2] 39 (0, 0))
  row : Kd.R k45 45 wr w0.heap.size (fun k => k = gp2) (.slice (some ⟨gp2, 0, none⟩) c.n cp2) out
  old : c.g < w0.heap.size ∧ c.gp < w0.heap.size ∧ c.gk < w0.heap.size
  b5n : w0.heap.size + 1 < b5
section
variable {w0 wr w1 : World} {n₀ : Nat} {c : Cv} {cnt : Nat} {ps : List S45} {ks : List Bool} {b5 gp2 cp2 : Nat} {out : List S45}
theorem VS.ext (h : VS w0 wr n₀ c cnt ps ks b5 gp2 cp2 out) (hb : Below wr.heap.size wr w1) : VS w0 w1 n₀ c cnt ps ks b5 gp2 cp2 out :=
  ⟨h.cv.ext hb, below_then h.bl h.bl.size hb, blk_below h.box hb, blk_below h.res hb, blk_below h.img hb, Kd.R_below h.row hb, h.old, h.b5n⟩
theorem VS.gp2ge (h : VS w0 wr n₀ c cnt ps ks b5 gp2 cp2 out) : w0.heap.size ≤ gp2 := Kd.R_base h.row gp2 rfl
theorem VS.setPix (h : VS w0 wr n₀ c cnt ps ks b5 gp2 cp2 out) (i : Nat) (hi : i < c.n) (x : S45) :
    VS w0 ((((wr.setCell ⟨gp2, i * 4, none⟩ (.int .u16 x.f0)).setCell ⟨gp2, i * 4 + 1, none⟩ (.int .u16 x.f1)).setCell ⟨gp2, i * 4 + 2, none⟩ (.int .u16 x.f2)).setCell ⟨gp2, i * 4 + 3, none⟩ (.int .u16 x.f3)) n₀ c cnt ps ks b5 gp2 cp2 (out.set i x) := by
  have hge := h.gp2ge
  obtain ⟨o1, o2, o3⟩ := h.old
  obtain ⟨cells, hcells⟩ := Kd.R_typed h.row gp2 rfl
  have n1 := blk_ne hcells h.box (by decide)
  have n2 := blk_ne hcells h.res (by decide)
  have n3 := blk_ne hcells h.img (by decide)
  obtain ⟨cs, hl, hM, hc, hf⟩ := Kd.R_elem h.row z45 (i : Int) (by omega) (by omega)
  have e4 : k45.sz = 4 := rfl
  rw [e4] at hc
  simp only [Int.toNat_natCast] at hM hc
  obtain rfl := k45_openM hM
  have h2 := Kd.R_seg (okp := fun k => False) h.row (i : Int) (by omega) (by omega) (c := [.int .u16 (out.getD i z45).f0, .int .u16 (out.getD i z45).f1, .int .u16 (out.getD i z45).f2, .int .u16 (out.getD i z45).f3]) (seg := [.int .u16 x.f0, .int .u16 x.f1, .int .u16 x.f2, .int .u16 x.f3]) (j := 0) rfl (by rw [e4]; exact hc) (by rw [e4]; exact Nat.le_refl _) (x' := x) (k45_mkM _ _ _ _) (fun k hk => hk.elim)
  have h3 := h2.1
  rw [e4] at h3
  simp only [Int.toNat_natCast, Nat.add_zero] at h3
  rw [← setCells4]
  have e := fun k (hk : k ≠ gp2) => setCells_far (g := gp2) [.int .u16 x.f0, .int .u16 x.f1, .int .u16 x.f2, .int .u16 x.f3] (i * 4) (w := wr) k hk
  obtain ⟨s1, s2, s3, s4⟩ := setCells_same gp2 [.int .u16 x.f0, .int .u16 x.f1, .int .u16 x.f2, .int .u16 x.f3] (i * 4) wr
  refine ⟨h.cv.kept (S := fun k => k = gp2) ⟨Nat.le_of_eq s4.symm, fun k _ hk => e k hk⟩ ?_, h.bl.trans ⟨s1, s2, s3, Nat.le_of_eq s4.symm, fun k hk => e k (by omega)⟩, (e _ (fun e => n1 e.symm)).trans h.box, (e _ (fun e => n2 e.symm)).trans h.res, (e _ (fun e => n3 e.symm)).trans h.img, h3, h.old, h.b5n⟩
  rintro k (rfl | rfl | rfl) e2 <;> omega
/-- the cells of a pixel told -/
theorem VS.pixel (h : VS w0 wr n₀ c cnt ps ks b5 gp2 cp2 out) (i : Nat) (hi : i < c.n) : (∃ a b d f, wr.cell? ⟨gp2, i * 4, none⟩ = some a ∧ wr.cell? ⟨gp2, i * 4 + 1, none⟩ = some b ∧ wr.cell? ⟨gp2, i * 4 + 2, none⟩ = some d ∧ wr.cell? ⟨gp2, i * 4 + 3, none⟩ = some f) ∧ ∀ j, wr.frozen? ⟨gp2, i * 4 + j, none⟩ = false := by
  obtain ⟨cs, hl, hM, hc, hf⟩ := Kd.R_elem h.row z45 (i : Int) (by omega) (by omega)
  have e4 : k45.sz = 4 := rfl
  rw [e4] at hc hf
  simp only [Int.toNat_natCast] at hM hc hf
  obtain rfl := k45_openM hM
  exact ⟨⟨_, _, _, _, by simpa using hc 0 _ rfl, by simpa using hc 1 _ rfl, by simpa using hc 2 _ rfl, by simpa using hc 3 _ rfl⟩, hf⟩
theorem VS.lts (h : VS w0 wr n₀ c cnt ps ks b5 gp2 cp2 out) : b5 < wr.heap.size ∧ gp2 < wr.heap.size := by
  obtain ⟨cells, hc⟩ := Kd.R_typed h.row gp2 rfl
  exact ⟨blk_lt h.img, blk_lt hc⟩
theorem blk_own {A B : World} {row : Option Nat} {b t : Nat} {cells : Array Value} (h : A.heap[b]? = some (.cells cells t (0, 0))) (hg : A.grownBy B row) (hr : ∀ r, row = some r → ∃ o : Obj, A.heap[r]? = some o ∧ o.isCells = false) : B.heap[b]? = some (.cells cells t (0, 0)) :=
  (grownBy_keeps_cells hg hr h rfl).trans h
theorem R_own1 {α : Type} {d : Kd α} {e base : Nat} {ok : Nat → Prop} {v : Value} {xs : List α} {A B : World} {row : Option Nat} (h : d.R e A base ok v xs) (hE : d.E = []) (hg : A.grownBy B row) (hr : ∀ r, row = some r → ∃ o : Obj, A.heap[r]? = some o ∧ o.isCells = false) : d.R e B base ok v xs :=
  Kd.R_grown2 h hE hg (fun k e1 e2 => by
    obtain ⟨cells, h1⟩ := Kd.R_typed h k e2.symm
    obtain ⟨ob, h2, h3⟩ := hr k e1
    rw [h1] at h2
    cases h2
    cases h3)
theorem VS.own (L : Nat) (hL : w0.heap.size ≤ L) {β : Type} (f : β → List S45) : OwnFrom L (fun (s : β) W => VS w0 W n₀ c cnt ps ks b5 gp2 cp2 (f s)) := by
  intro s A B row hs hg hr
  have hrc : ∀ r, row = some r → ∃ o : Obj, A.heap[r]? = some o ∧ o.isCells = false := fun r e => (hr r e).2
  exact ⟨⟨blk_own hs.cv.blk hg hrc, R_own1 hs.cv.pix rfl hg hrc, R_own1 hs.cv.kn rfl hg hrc, hs.cv.ge, hs.cv.sz⟩, hs.bl.grown hg hs.bl.size (fun k e => Nat.le_trans hL (hr k e).1), blk_own hs.box hg hrc, blk_own hs.res hg hrc, blk_own hs.img hg hrc, R_own1 hs.row rfl hg hrc, hs.old, hs.b5n⟩
end
/-- marks on the deferred calls -/
def mks (Ds : List Nat) : List Deferred := Ds.map fun D => { target := .collected D, args := #[] }
def MkAt (Ds : List Nat) (W : World) : Prop := ∀ D ∈ Ds, W.heap[D]? = some (.deferred (some []))
theorem MkAt.ext {Ds : List Nat} {W W1 : World} (h : MkAt Ds W) (hb : Below W.heap.size W W1) : MkAt Ds W1 := fun D hD => blk_below (h D hD) hb
theorem MkAt.keep {Ds : List Nat} {W W1 : World} (h : MkAt Ds W) (hk : KeepsOthers W W1) : MkAt Ds W1 := fun D hD => hk.2 D _ (h D hD) rfl
/-- a return over marks alone -/
theorem leaves_marks {F : Fence} {n : Nat} {P : Program} {fn : Func} {tmps : Array Value} {R : Ending → World → Prop} : ∀ (Ds : List Nat) (W : World), Ds.Nodup → MkAt Ds W →
    (∀ W', Kept W W' (fun k => k ∈ Ds) → W'.os = W.os → W'.tape = W.tape → W'.output = W.output → LeavesIn F n P fn tmps R [] .returning W') → LeavesInM F n P fn tmps R (mks Ds) .returning W
  | [], W, _, _, h => h W (Kept.refl _ _) rfl rfl rfl
  | D :: Ds, W, hn, hm, h => by
    have hD := hm D (List.mem_cons_self)
    obtain ⟨hn1, hn2⟩ := List.nodup_cons.1 hn
    have hsz : (W.putObj D (.deferred none)).heap.size = W.heap.size := by simp [World.putObj]
    refine ⟨by simp, .inl ⟨D, _, rfl, run_takeDeferred hD, ?_⟩⟩
    refine leaves_marks Ds _ hn2 (fun D' hD' => (World.putObj_heap_other (fun (e : D' = D) => hn1 (e ▸ hD'))).trans (hm D' (List.mem_cons_of_mem _ hD'))) (fun W' hk h1 h2 h3 => ?_)
    refine h W' ⟨by rw [← hsz]; exact hk.1, fun i hi hni => ?_⟩ h1 h2 h3
    have hiD : i ≠ D := fun e => hni (e ▸ List.mem_cons_self)
    exact (hk.2 i (by rw [hsz]; exact hi) (fun h => hni (List.mem_cons_of_mem _ h))).trans (World.putObj_heap_other hiD)
end Go.Proofs.Ytmeafgoifekffaa.Lib
