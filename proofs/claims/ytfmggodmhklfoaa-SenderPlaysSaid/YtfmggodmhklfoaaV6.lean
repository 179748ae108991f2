/- Tick: walked by hand. -/
import Derived.Test.YtfmggodmhklfoaaV5
import Derived.WalkMore
import Derived.Test.YtfmggodmhklfoaaV0
import Derived.Scope
namespace Go.Proofs.Ytfmggodmhklfoaa.Lib
open Go.RowKit Go.Shelf Go.Proofs.YtfmggodmhklfoaaW.PrintWords Go.Proofs.YtfmggodmhklfoaaW.PrintLast Go.Proofs.YtfmggodmhklfoaaW.PrintMore
attribute [local go_sem] Oper.semAt_some
attribute [local go_sem] max2_int min2_int max_two min_two
set_option linter.unusedVariables false
set_option linter.unusedSimpArgs false
theorem info3 : (Try.prog.info? 3).map (fun i => (i.zero, i.size, i.bytes)) = some (some (.int .i64 0), 1, 8) := by kernel_rfl
theorem info54 : (Try.prog.info? 54).map (fun i => (i.zero, i.size, i.bytes)) = some (some (.agg #[.bool false, .bool false, .int .i64 0, .int .i64 0]), 4, 24) := by kernel_rfl
/-- one item, at a tick -/
def stepT (ms bs now : Int) (st : List S54 × List Int) (i : Nat) : List S54 × List Int :=
  if now < (st.1.getD i z54).f3 then st else
    (st.1.set i ⟨(st.1.getD i z54).f0, (st.1.getD i z54).f1, mn (2 * (st.1.getD i z54).f2) ms, now + mn (2 * (st.1.getD i z54).f2) ms⟩, st.2 ++ [bs + i])
/-- the items that are on the way, at a tick -/
def runT (ms bs now : Int) (its : List S54) (l : List Nat) : List S54 × List Int := l.foldl (stepT ms bs now) (its, [])
theorem runT_snoc (ms bs now : Int) (its : List S54) (l : List Nat) (i : Nat) : runT ms bs now its (l ++ [i]) = stepT ms bs now (runT ms bs now its l) i := by simp [runT]
theorem stepT_length (ms bs now : Int) (st : List S54 × List Int) (i : Nat) : (stepT ms bs now st i).1.length = st.1.length := by
  unfold stepT; split <;> simp
theorem runT_length (ms bs now : Int) (its : List S54) (l : List Nat) : (runT ms bs now its l).1.length = its.length := by
  unfold runT
  generalize hst : (its, ([] : List Int)) = st
  have : its.length = st.1.length := by rw [← hst]
  rw [this]
  clear this hst
  induction l generalizing st with
  | nil => rfl
  | cons i l ih => rw [List.foldl_cons, ih, stepT_length]
theorem getD_set_S (l : List S54) (i j : Nat) (x : S54) : (l.set i x).getD j z54 = if i = j ∧ i < l.length then x else l.getD j z54 := by
  rw [List.getD_eq_getElem?_getD, List.getElem?_set, List.getD_eq_getElem?_getD]
  by_cases h : i = j
  · subst h
    by_cases h2 : i < l.length
    · simp [h2]
    · simp [h2]
  · simp [h]
theorem runT_f0 (ms bs now : Int) (its : List S54) (l : List Nat) : (∀ j, ((runT ms bs now its l).1.getD j z54).f0 = (its.getD j z54).f0) ∧ (runT ms bs now its l).2.length ≤ l.length := by
  unfold runT
  have key : ∀ (l : List Nat) (st : List S54 × List Int), (∀ j, (((l.foldl (stepT ms bs now) st).1).getD j z54).f0 = (st.1.getD j z54).f0) ∧ (l.foldl (stepT ms bs now) st).2.length ≤ st.2.length + l.length := by
    intro l
    induction l with
    | nil => intro st; exact ⟨fun _ => rfl, by simp⟩
    | cons i l ih =>
      intro st
      obtain ⟨h1, h2⟩ := ih (stepT ms bs now st i)
      rw [List.foldl_cons]
      constructor
      · intro j
        rw [h1 j]
        unfold stepT
        split
        · rfl
        · rw [getD_set_S]
          split
          · rename_i h; rw [h.1]
          · rfl
      · have : (stepT ms bs now st i).2.length ≤ st.2.length + 1 := by unfold stepT; split <;> simp
        simp only [List.length_cons]
        omega
  have := key l (its, [])
  exact ⟨this.1, by simpa using this.2⟩
theorem runT_gap (ms bs now : Int) (its : List S54) (l : List Nat) (hm : 0 ≤ ms ∧ ms ≤ 65536) (h : ∀ j, 0 ≤ (its.getD j z54).f2 ∧ (its.getD j z54).f2 ≤ 65536) : ∀ j, 0 ≤ ((runT ms bs now its l).1.getD j z54).f2 ∧ ((runT ms bs now its l).1.getD j z54).f2 ≤ 65536 := by
  unfold runT
  have key : ∀ (l : List Nat) (st : List S54 × List Int), (∀ j, 0 ≤ (st.1.getD j z54).f2 ∧ (st.1.getD j z54).f2 ≤ 65536) → ∀ j, 0 ≤ (((l.foldl (stepT ms bs now) st).1).getD j z54).f2 ∧ (((l.foldl (stepT ms bs now) st).1).getD j z54).f2 ≤ 65536 := by
    intro l
    induction l with
    | nil => intro st h; exact h
    | cons i l ih =>
      intro st h
      rw [List.foldl_cons]
      refine ih _ (fun j => ?_)
      unfold stepT
      split
      · exact h j
      · rw [getD_set_S]
        split
        · have := h i
          unfold mn
          dsimp only
          split <;> omega
        · exact h j
  exact key l (its, []) h
/-- between two rounds of a tick -/
structure TickS (w : World) (n₀ g : Nat) (c : Cfg) (bs nw : Int) (vs v1 : Value) (st : List S54 × List Int) (W : World) : Prop where
  sd : IsSd W n₀ g c bs nw v1 st.1
  out : ∃ vo, Boxed W (w.heap.size + 1) 37 vo ∧ Kd.R (Kd.int .i64) 3 W w.heap.size (fun _ => True) vo st.2
  box : Boxed W w.heap.size 24 (.pointer (some ⟨g, 0, none⟩))
  box2 : Boxed W (w.heap.size + 1 + 1) 24 (.pointer (some ⟨g, 0, none⟩))
  left : Left w W n₀ g vs v1
abbrev TickSt (w : World) (n₀ g : Nat) (c : Cfg) (bs nw : Int) (vs : Value) (st : List S54 × List Int) (W : World) : Prop := TickS w n₀ g c bs nw vs vs st W
theorem Left.ownF {w A B : World} {n₀ g : Nat} {vs v1 : Value} {row : Option Nat} (h : Left w A n₀ g vs v1) (hg : A.grownBy B row) (hr : ∀ r, row = some r → w.heap.size ≤ r) (hn : n₀ ≤ w.heap.size) : Left w B n₀ g vs v1 := by
  refine ⟨?_, h.below.grown hg (Nat.le_trans hn h.keep.1) (fun k e => Nat.le_trans hn (hr k e)), h.at_⟩
  cases row with
  | none => exact ⟨Nat.le_trans h.keep.1 (KeepBut.of_grown hg g).1, fun i hi hg' hr' => ((KeepBut.of_grown hg g).2 i (Nat.lt_of_lt_of_le hi h.keep.1) hg' (by simp)).trans (h.keep.2 i hi hg' hr')⟩
  | some r => exact h.keep.trans (KeepBut.of_grown hg g) (.inr ⟨r, rfl, hr r rfl⟩)
theorem TickS.own (w : World) (n₀ g : Nat) (c : Cfg) (bs nw : Int) (vs v1 : Value) {β : Type} (f : β → List S54 × List Int) (L : Nat) (hL : w.heap.size ≤ L) (hn : n₀ ≤ w.heap.size) : OwnFrom L (fun s W => TickS w n₀ g c bs nw vs v1 (f s) W) := by
  intro s A B row hs hg hr
  have hrc : ∀ r, row = some r → ∃ o : Obj, A.heap[r]? = some o ∧ o.isCells = false := fun r e => (hr r e).2
  have hne : ∀ {v : Value}, (∀ k, v.ownBlock = some k → ∃ cells e, A.heap[k]? = some (.cells cells e (0, 0))) → ∀ k, row = some k → some k ≠ v.ownBlock := fun hty k e e2 => by
    obtain ⟨cells, e', h1⟩ := hty k e2.symm
    obtain ⟨ob, h2, h3⟩ := hrc k e
    rw [h1] at h2
    cases h2
    cases h3
  obtain ⟨vo, hbo, hro⟩ := hs.out
  exact ⟨⟨(grownBy_keeps_cells hg hrc hs.sd.blk rfl).trans hs.sd.blk, hs.sd.ge, Kd.Q_grown2 hs.sd.row rfl hg (hne (fun k e => by obtain ⟨cells, h⟩ := Kd.Q_typed hs.sd.row k e; exact ⟨cells, _, h⟩))⟩,
    ⟨vo, boxedp_own _ _ (fun _ : Unit => vo) () A B row hbo hg hrc, Kd.R_grown2 hro rfl hg (hne (fun k e => by obtain ⟨cells, h⟩ := Kd.R_typed hro k e; exact ⟨cells, _, h⟩))⟩,
    boxedp_own _ _ (fun _ : Unit => Value.pointer (some ⟨g, 0, none⟩)) () A B row hs.box hg hrc, boxedp_own _ _ (fun _ : Unit => Value.pointer (some ⟨g, 0, none⟩)) () A B row hs.box2 hg hrc, hs.left.ownF hg (fun r e => Nat.le_trans hL (hr r e).1) hn⟩
theorem TickS.ext {w : World} {n₀ g : Nat} {c : Cfg} {bs nw : Int} {vs u1 : Value} {st : List S54 × List Int} {W W1 : World} (h : TickS w n₀ g c bs nw vs u1 st W) (hb : Below W.heap.size W W1) (hn : n₀ ≤ w.heap.size) : TickS w n₀ g c bs nw vs u1 st W1 := by
  obtain ⟨vo, hbo, hro⟩ := h.out
  exact ⟨h.sd.ext hb, ⟨vo, blk_below hbo hb, Kd.R_below hro hb⟩, blk_below h.box hb, blk_below h.box2 hb, h.left.trans ⟨KeepBut.of_below hb _ _, hb.mono (Nat.le_trans hn h.left.keep.1), .inl rfl⟩⟩
theorem pw_cell_grown {W w1 : World} {B t : Nat} {v : Value} {row : Option Nat} (h : Boxed W B t v) (hg : W.grownBy w1 row) (hne : some B ≠ row) : w1.cell? ⟨B, 0, none⟩ = some v := by
  have h1 := blk_grown (g := B) h hg hne
  simpa using blk_cell h1 0
theorem pw_frozen_grown {W w1 : World} {B t : Nat} {v : Value} {row : Option Nat} (h : Boxed W B t v) (hg : W.grownBy w1 row) (hne : some B ≠ row) : w1.frozen? ⟨B, 0, none⟩ = false := blk_frozen (blk_grown (g := B) h hg hne) 0
theorem Left.setnew {w w1 : World} {n₀ g B j : Nat} {vs v1 : Value} (h : Left w w1 n₀ g vs v1) (hB : w.heap.size ≤ B) (hn : n₀ ≤ w.heap.size) (u : Value) : Left w (w1.setCell ⟨B, j, none⟩ u) n₀ g vs v1 :=
  ⟨keep_far h.keep (p := ⟨B, j, none⟩) hB u, h.below.setCell (p := ⟨B, j, none⟩) (Nat.le_trans hn hB) u, h.at_⟩
theorem TickS.append {w : World} {n₀ g : Nat} {c : Cfg} {bs nw : Int} {vs u1 vo v1 : Value} {st : List S54 × List Int} {W w1 : World} {p : Int} (h : TickS w n₀ g c bs nw vs u1 st W) (hbo : Boxed W (w.heap.size + 1) 37 vo) (hro : Kd.R (Kd.int .i64) 3 W w.heap.size (fun _ => True) vo st.2)
    (ho : Kd.R (Kd.int .i64) 3 w1 w.heap.size (fun _ => True) v1 (st.2 ++ [p])) (hg : W.grownBy w1 vo.ownBlock) (hn : n₀ ≤ w.heap.size) :
    TickS w n₀ g c bs nw vs u1 (st.1, st.2 ++ [p]) (w1.setCell ⟨w.heap.size + 1, 0, none⟩ v1) ∧ KeepsOthers W (w1.setCell ⟨w.heap.size + 1, 0, none⟩ v1) ∧
      ∀ (b t : Nat) (cells : Array Value), W.heap[b]? = some (.cells cells t (0, 0)) → 3 ≠ t → b ≠ w.heap.size + 1 → (w1.setCell ⟨w.heap.size + 1, 0, none⟩ v1).heap[b]? = some (.cells cells t (0, 0)) := by
  have oth : ∀ (b t : Nat) (cells : Array Value), W.heap[b]? = some (.cells cells t (0, 0)) → 3 ≠ t → b ≠ w.heap.size + 1 → (w1.setCell ⟨w.heap.size + 1, 0, none⟩ v1).heap[b]? = some (.cells cells t (0, 0)) := fun b t cells hb ht hne =>
    blk_far (p := ⟨w.heap.size + 1, 0, none⟩) (blk_grown hb hg (Kd.R_ne hro hb ht)) hne _
  have hbo1 : Boxed w1 (w.heap.size + 1) 37 vo := blk_grown (g := w.heap.size + 1) hbo hg (Kd.R_ne hro hbo (by decide))
  have hgne : g ≠ w.heap.size + 1 := fun e => by
    have h1 := h.sd.blk
    rw [e] at h1
    have h2 : W.heap[w.heap.size + 1]? = some (.cells #[vo] 37 (0, 0)) := hbo
    rw [h1] at h2
    simp at h2
  refine ⟨⟨⟨oth g 47 _ h.sd.blk (by decide) hgne, h.sd.ge, ?_⟩, ⟨v1, hbo1.set v1, Kd.R_set ho hbo1 (by decide) 0 v1⟩, oth _ 24 _ h.box (by decide) (by omega), oth _ 24 _ h.box2 (by decide) (by omega), (h.left.ownF hg (fun r e => Kd.R_base hro r e) hn).setnew (by omega) hn v1⟩, ?_, oth⟩
  · exact Kd.Q_set (Kd.Q_over' h.sd.row (fun k e => Kd.R_typed hro k e) (by decide) hg) hbo1 (by decide) 0 v1
  · refine (KeepsOthers.of_grownBy hg (fun j o ej hj => ?_)).trans (KeepsOthers.setCell _ _ _)
    obtain ⟨cells, h2⟩ := Kd.R_typed hro j ej
    rw [h2] at hj
    cases hj
    rfl
theorem TickS.grow {w : World} {n₀ g : Nat} {c : Cfg} {bs nw : Int} {vs u1 v2 : Value} {its2 : List S54} {os2 : List Int} {W w2 : World} {x : S54} (h : TickS w n₀ g c bs nw vs u1 (its2, os2) W) (hq : Kd.Q k54 54 W n₀ (fun _ => True) u1 its2)
    (ho : Kd.Q k54 54 w2 n₀ (fun _ => True) v2 (its2 ++ [x])) (hg : W.grownBy w2 u1.ownBlock) (hat : v2.ownBlock = u1.ownBlock ∨ ∃ b, v2.ownBlock = some b ∧ W.heap.size ≤ b) (hn : n₀ ≤ w.heap.size) :
    TickS w n₀ g c bs nw vs v2 (its2 ++ [x], os2) (w2.setCell ⟨g, 6, none⟩ v2) := by
  obtain ⟨vo, hbo, hro⟩ := h.out
  have hblk := blk_grown h.sd.blk hg (Kd.Q_ne hq h.sd.blk (by decide))
  have hne : ∀ {b t : Nat} {v : Value}, Boxed W b t v → t ≠ 47 → b ≠ g := fun {b t v} hb ht e => by
    have h2 : W.heap[b]? = some (.cells #[v] t (0, 0)) := hb
    have h1 := h.sd.blk
    rw [← e, h2] at h1
    injection h1 with h1
    injection h1 with _ h3
    exact ht h3
  have bx : ∀ {b t : Nat} {v : Value}, Boxed W b t v → 54 ≠ t → t ≠ 47 → Boxed (w2.setCell ⟨g, 6, none⟩ v2) b t v := fun {b t v} hb h1 h2 =>
    blk_far (p := ⟨g, 6, none⟩) (blk_grown (g := b) hb hg (Kd.Q_ne hq (show W.heap[b]? = some (.cells #[v] t (0, 0)) from hb) h1)) (hne hb h2) _
  refine ⟨⟨blk_put hblk 6 v2 rfl, h.sd.ge, Kd.Q_set ho hblk (by decide) 6 v2⟩, ⟨vo, bx hbo (by decide) (by decide), Kd.R_set (Kd.R_over' hro (fun k e => Kd.Q_typed hq k e) (by decide) hg) hblk (by decide) 6 v2⟩, bx h.box (by decide) (by decide), bx h.box2 (by decide) (by decide), ?_⟩
  exact (h.left.trans ⟨KeepBut.of_grown hg g, (Below.refl n₀ W).grown hg (Nat.le_trans hn h.left.keep.1) (fun k e => Kd.Q_base hq k e), hat⟩).setblk h.sd.ge 6 _ v2 rfl
theorem KeepsOthers.drew_ (W : World) : KeepsOthers W W.drew := ⟨Nat.le_refl _, fun _ _ h _ => h⟩
/-- the window is filled -/
def fillT (bs now fs : Int) (st : List S54 × List Int) (j : Nat) : List S54 × List Int := (st.1 ++ List.replicate j ⟨false, false, fs, now + fs⟩, st.2 ++ (List.range j).map fun t => bs + ((st.1.length + t : Nat) : Int))
theorem fillT_length (bs now fs : Int) (st : List S54 × List Int) (j : Nat) : (fillT bs now fs st j).1.length = st.1.length + j ∧ (fillT bs now fs st j).2.length = st.2.length + j := by simp [fillT]
theorem fillT_succ (bs now fs : Int) (st : List S54 × List Int) (j : Nat) : fillT bs now fs st (j + 1) = ((fillT bs now fs st j).1 ++ [⟨false, false, fs, now + fs⟩], (fillT bs now fs st j).2 ++ [bs + ((st.1.length + j : Nat) : Int)]) := by
  simp [fillT, List.replicate_succ', List.range_succ]
/-- a tick: the items, what is sent -/
def tickL (c : Cfg) (bs nw : Int) (its : List S54) : List S54 × List Int := fillT bs (nw + 1) c.fs (runT c.ms bs (nw + 1) its (opensTo its its.length)) (mn c.wd (c.n - bs) - its.length).toNat
/-- what a tick leaves -/
def TickPost (w : World) (n₀ g : Nat) (c : Cfg) (bs nw : Int) (vs : Value) (P : List S54 × List Int) (e : Ending) (W' : World) : Prop :=
  ∃ vo v1, e = .returned vo ∧ IsSd W' n₀ g c bs (nw + 1) v1 P.1 ∧ Kd.R (Kd.int .i64) 3 W' w.heap.size (fun _ => True) vo P.2 ∧ Left w W' n₀ g vs v1
set_option maxRecDepth 100000 in
set_option maxHeartbeats 1000000 in
theorem tick_in {n₀ g : Nat} {c : Cfg} {bs nw : Int} {vs : Value} {its : List S54} (w : World) (hI : IsSd w n₀ g c bs nw vs its) (hm : its.length ≤ 1000000) (hms : 0 ≤ c.ms ∧ c.ms ≤ 65536) (hgap : ∀ j, 0 ≤ (its.getD j z54).f2 ∧ (its.getD j z54).f2 ≤ 65536) (hnw : 0 ≤ nw ∧ nw ≤ 1000000000000) (hbs : 0 ≤ bs ∧ bs ≤ 1000000000000) (hn : n₀ ≤ w.heap.size) (hcn : 0 ≤ c.n ∧ c.n ≤ 1048577) (hcw : 0 ≤ c.wd ∧ c.wd ≤ 64) (hcf : 0 ≤ c.fs ∧ c.fs ≤ 65536) :
    CallsIn Fence.wide 3 Try.prog 15 #[.pointer (some ⟨g, 0, none⟩)] w fun e W' => TickPost w n₀ g c bs nw vs (tickL c bs nw its) e W' := by
  obtain ⟨A, cp, gb, o, rfl, hcp, hA, hgb, hgb0, hgbg, hcr, hci⟩ := hI.place
  have hg := blk_lt hI.blk
  have hgn := hI.ge
  have hc5 := blk_cell hI.blk 5
  have hf5 := blk_frozen hI.blk 5
  have hI5 := hI.put5 (nw + 1)
  have hL5 : Left w (w.setCell ⟨g, 5, none⟩ (.int .i64 (nw + 1))) n₀ g (.slice A its.length cp) (.slice A its.length cp) := (Left.refl w n₀ g _).setblk hgn 5 _ _ rfl
  have HI5 := Aside0.mk hI5
  have HL5 := Aside0.mk hL5
  clear hI hcr hci hI5 hL5
  refine callsIn_of_wp_marks Try.func15 rfl trivial ?_ rfl
  simp only [Try.ntmps15, List.size_toArray, List.length_cons, List.length_nil, Nat.reduceAdd, Nat.reduceSub, Array.replicate_succ, Array.replicate_zero, List.push_toArray, List.append_toArray, List.nil_append, List.cons_append]
  refine wpIn_wide.2 ?_
  go_wp2
  go_step3
  go_wp2
  go_step3
  go_wp2_with (go_at_call 24; refine ((callsIn_wide (n := 2)).1 (open_in Fence.wide 2 trivial rfl _ _)).mono ?_; rintro e w' ⟨rfl, rfl⟩)
  obtain ⟨w5, hw5⟩ : ∃ w5, w.setCell ⟨g, 5, none⟩ (.int .i64 (nw + 1)) = w5 := ⟨_, rfl⟩
  have hz5 : w5.heap.size = w.heap.size := by rw [← hw5]; simp
  rw [hw5] at HI5 HL5 ⊢
  clear hw5 hc5 hf5
  have b1 := Boxed.new w5 24 (.pointer (some ⟨g, 0, none⟩))
  have bO := Boxed.new (w5.alloc (.cells #[.pointer (some ⟨g, 0, none⟩)] 24)) 37 (.slice none 0 0)
  have b2 := Boxed.new ((w5.alloc (.cells #[.pointer (some ⟨g, 0, none⟩)] 24)).alloc (.cells #[.slice none 0 0] 37)) 24 (.pointer (some ⟨g, 0, none⟩))
  rw [hz5] at b1
  rw [World.size_alloc, hz5] at bO
  rw [World.size_alloc, World.size_alloc, hz5] at b2
  have hB5 : Below w5.heap.size w5 (((w5.alloc (.cells #[.pointer (some ⟨g, 0, none⟩)] 24)).alloc (.cells #[.slice none 0 0] 37)).alloc (.cells #[.pointer (some ⟨g, 0, none⟩)] 24)) := (((Below.refl _ _).alloc (Nat.le_refl _) _).alloc (by simp) _).alloc (by simp; omega) _
  have hsdL := HI5.out.ext hB5
  have hlfL : Left w (((w5.alloc (.cells #[.pointer (some ⟨g, 0, none⟩)] 24)).alloc (.cells #[.slice none 0 0] 37)).alloc (.cells #[.pointer (some ⟨g, 0, none⟩)] 24)) n₀ g (.slice A its.length cp) (.slice A its.length cp) := HL5.out.trans ⟨KeepBut.of_below hB5 _ _, hB5.mono (by omega), .inl rfl⟩
  have hci : ∀ j, j < its.length → World.cell? (((w5.alloc (.cells #[.pointer (some ⟨g, 0, none⟩)] 24)).alloc (.cells #[.slice none 0 0] 37)).alloc (.cells #[.pointer (some ⟨g, 0, none⟩)] 24)) ⟨gb, o + j * 4, none⟩ = some (.bool (its.getD j z54).f0) := fun j hj => by
    have e := hA (by omega)
    subst e
    exact (k54_cells hsdL.row j hj).1.1
  have hcr : World.cell? (((w5.alloc (.cells #[.pointer (some ⟨g, 0, none⟩)] 24)).alloc (.cells #[.slice none 0 0] 37)).alloc (.cells #[.pointer (some ⟨g, 0, none⟩)] 24)) ⟨g, 6, none⟩ = some (.slice A its.length cp) := by simpa using blk_cell hsdL.blk 6
  refine (wpIn_wide (n := 3)).1 ?_
  refine wpIn_rangeFunc_ownG rfl (by omega) (gf := 25) (lb := #[.pointer (some ⟨w.heap.size + 1 + 1, 0, none⟩)]) rfl trivial (enters_of Try.func25 (by kernel_rfl) rfl)
    (open_stops Fence.wide 2 trivial rfl (by omega) its (w.heap.size + 1 + 1) g gb o A cp hA (by omega) _ b2.cell hcr hci) (fun h k => OpKp.trans h k) (OpKp.put (by simp [hz5]) (by simp [hz5]; omega) (fun h => by have := hgb h; simp [hz5]; omega)) (Below.refl _ _) (fun _ => rfl)
    (fun pre W => TickSt w n₀ g c bs (nw + 1) (.slice A its.length cp) (runT c.ms bs (nw + 1) its (pre.map (·.1))) W)
    (fun _ _ _ => False)
    ?own
    (fun _ _ _ _ _ hs _ _ => hs)
    ⟨hsdL, ⟨_, bO.alloc _, Kd.R_nil _ _ _ _ _⟩, (b1.alloc _).alloc _, b2, hlfL⟩
    (fun x => { tmps := #[.pointer (some ⟨g, 0, none⟩), .pointer (some ⟨w.heap.size, 0, none⟩), .slice none 0 0, .pointer (some ⟨w.heap.size + 1, 0, none⟩), .int .i64 x.1, .pointer (some ⟨gb, o + x.1 * 4, none⟩), .pointer (some ⟨g, 0, none⟩), .bool false, .pointer (some ⟨g, 0, none⟩), .pointer (some ⟨g, 0, none⟩), .pointer (some ⟨g, 5, none⟩), .int .i64 nw, .int .i64 (nw + 1), .pointer (some ⟨g, 0, none⟩), .pointer (some ⟨g, 5, none⟩), .pointer (some ⟨g, 0, none⟩), .func (.func 25) #[] #[.pointer (some ⟨w.heap.size + 1 + 1, 0, none⟩)], .int .i64 x.1, .pointer (some ⟨gb, o + x.1 * 4, none⟩), undef, undef, undef, undef, undef, undef, undef, undef, undef, undef, undef, undef, undef, undef, undef, undef, undef, undef, undef, undef, undef, undef, undef, undef, undef, undef, undef, undef, undef, undef, undef, undef, undef, undef, undef, undef, undef, undef, undef, undef, undef, undef, undef, undef, undef, undef, undef, undef, undef, undef, undef, undef, undef, undef, undef, undef, undef, undef, undef, undef, undef, undef, undef, undef, undef, undef, undef, undef, undef, undef, undef, undef, undef, undef, undef, undef, undef, undef, undef, undef, undef, undef, undef, undef, undef, undef, undef, undef, undef, undef, undef, undef, undef, undef, undef, undef, undef, undef, undef, undef], defers := [] }) ?assign ?body ?done ?stop
  case own => exact TickS.own w n₀ g c bs (nw + 1) _ _ (fun pre : List (OpI its) => runT c.ms bs (nw + 1) its (pre.map (·.1))) _ (Nat.le_trans (Nat.le_of_eq hz5.symm) hB5.size) hn
  case assign =>
    intro l x W K hK
    gi_wp2
    simpa [List.zip_toArray] using hK
  case body =>
    rintro l pre ⟨i, hi, hf0⟩ W hT hlt
    dsimp only
    have hrl := runT_length c.ms bs (nw + 1) its (pre.map (·.1))
    have hrf := runT_f0 c.ms bs (nw + 1) its (pre.map (·.1))
    have hrg := runT_gap c.ms bs (nw + 1) its (pre.map (·.1)) hms hgap i
    obtain ⟨st, hst⟩ : ∃ st, runT c.ms bs (nw + 1) its (pre.map (·.1)) = st := ⟨_, rfl⟩
    rw [hst] at hT hrl hrf hrg
    have e := hA (by omega)
    subst e
    obtain ⟨vo, hbo, hro⟩ := hT.out
    obtain ⟨⟨hx0, hx1, hx2, hx3⟩, hxf⟩ := k54_cells hT.sd.row i hi
    have hxf2 := hxf 2
    have hxf3 := hxf 3
    have hcb := hT.box.cell
    have hc5 := blk_cell hT.sd.blk 5
    have hc3 := blk_cell hT.sd.blk 3
    have hc4 := blk_cell hT.sd.blk 4
    obtain ⟨y, hy⟩ : ∃ y, st.1.getD i z54 = y := ⟨_, rfl⟩
    rw [hy] at hx2 hx3 hrg
    by_cases hdue : nw + 1 < y.f3
    · have hd : decide (nw + 1 < y.f3) = true := decide_eq_true hdue
      clear hx0 hx1 hx2 hxf hxf2 hxf3 hc3 hc4
      gi_wp2
      refine wpIn_tail_ 8 (by kernel_rfl) (by kernel_rfl) ?hQ (by kernel_rfl) ?_
      case hQ => exact fun ⟨_, _, h⟩ => h
      simp only [List.take_succ_cons, List.take_zero, List.drop_succ_cons, List.drop_zero]
      repeat still_step
      try refine wpStill_nil ?_
      go_wp2
      gi_wp2
      refine ⟨(KeepsOthers.drew_ W).from _, ⟨rfl, rfl, fun _ _ => rfl⟩, ?_⟩
      dsimp only
      rw [List.map_append, List.map_singleton, runT_snoc, hst, stepT, hy, if_pos hdue]
      exact hT.ext (below_drew (Below.refl _ _)) hn
    · have hd : decide (nw + 1 < y.f3) = false := decide_eq_false hdue
      obtain ⟨q, hq⟩ : ∃ q, mn (2 * y.f2) c.ms = q := ⟨_, rfl⟩
      have hq' : (if c.ms < 2 * y.f2 then c.ms else 2 * y.f2) = q := hq
      have hqb : 0 ≤ q ∧ q ≤ 65536 := by unfold mn at hq; split at hq <;> omega
      have hw2 : IntKind.i64.wrap (2 * y.f2) = 2 * y.f2 := (i64_w _).trans (wrap64_in (by omega) (by omega))
      have hne := hT.sd.ne
      clear hx0 hx1
      gi_wp2
      refine wpIn_tail_ 8 (by kernel_rfl) (by kernel_rfl) ?hQ (by kernel_rfl) ?_
      case hQ => exact fun ⟨_, _, h⟩ => h
      simp only [List.take_succ_cons, List.take_zero, List.drop_succ_cons, List.drop_zero]
      repeat still_step
      try refine wpStill_nil ?_
      go_wp2
      gi_wp2
      refine wpIn_tail_ 11 (by kernel_rfl) (by kernel_rfl) ?hQ (by kernel_rfl) ?_
      case hQ => exact fun ⟨_, _, h⟩ => h
      simp only [List.take_succ_cons, List.take_zero, List.drop_succ_cons, List.drop_zero]
      repeat still_step
      try refine wpStill_nil ?_
      go_wp2
      gi_wp2
      refine wpIn_tail_ 10 (by kernel_rfl) (by kernel_rfl) ?hQ (by kernel_rfl) ?_
      case hQ => exact fun ⟨_, _, h⟩ => h
      simp only [List.take_succ_cons, List.take_zero, List.drop_succ_cons, List.drop_zero]
      repeat still_step
      try refine wpStill_nil ?_
      go_wp2
      gi_wp2
      have hsd1 := (hT.sd.set1 i hi 2 (.int .i64 q) ⟨y.f0, y.f1, q, y.f3⟩ (by omega) (by rw [hy]; rfl)).set1 i hi 3 (.int .i64 (nw + 1 + q)) ⟨y.f0, y.f1, q, nw + 1 + q⟩ (by omega) (by
        rw [getD_set_S, if_pos ⟨rfl, by omega⟩]; rfl)
      rw [List.set_set] at hsd1
      obtain ⟨cellsg, hgt⟩ := Kd.Q_typed hT.sd.row gb rfl
      have hgw := hgb (by omega)
      have hgt2 := blk_set hgt (o + i * 4 + 2) (.int .i64 q)
      have hro1 := Kd.R_set (Kd.R_set hro hgt (by decide) (o + i * 4 + 2) (.int .i64 q)) hgt2 (by decide) (o + i * 4 + 3) (.int .i64 (nw + 1 + q))
      have hbo1 : Boxed ((W.setCell ⟨gb, o + i * 4 + 2, none⟩ (.int .i64 q)).setCell ⟨gb, o + i * 4 + 3, none⟩ (.int .i64 (nw + 1 + q))) (w.heap.size + 1) 37 vo := blk_far (p := ⟨gb, o + i * 4 + 3, none⟩) (blk_far (p := ⟨gb, o + i * 4 + 2, none⟩) hbo (by show _ ≠ gb; omega) _) (by show _ ≠ gb; omega) _
      have hbx1 : Boxed ((W.setCell ⟨gb, o + i * 4 + 2, none⟩ (.int .i64 q)).setCell ⟨gb, o + i * 4 + 3, none⟩ (.int .i64 (nw + 1 + q))) w.heap.size 24 (.pointer (some ⟨g, 0, none⟩)) := blk_far (p := ⟨gb, o + i * 4 + 3, none⟩) (blk_far (p := ⟨gb, o + i * 4 + 2, none⟩) hT.box (by show _ ≠ gb; omega) _) (by show _ ≠ gb; omega) _
      have hby1 : Boxed ((W.setCell ⟨gb, o + i * 4 + 2, none⟩ (.int .i64 q)).setCell ⟨gb, o + i * 4 + 3, none⟩ (.int .i64 (nw + 1 + q))) (w.heap.size + 1 + 1) 24 (.pointer (some ⟨g, 0, none⟩)) := blk_far (p := ⟨gb, o + i * 4 + 3, none⟩) (blk_far (p := ⟨gb, o + i * 4 + 2, none⟩) hT.box2 (by show _ ≠ gb; omega) _) (by show _ ≠ gb; omega) _
      have hT1 : TickSt w n₀ g c bs (nw + 1) (.slice (some ⟨gb, o, none⟩) its.length cp) (st.1.set i ⟨y.f0, y.f1, q, nw + 1 + q⟩, st.2) ((W.setCell ⟨gb, o + i * 4 + 2, none⟩ (.int .i64 q)).setCell ⟨gb, o + i * 4 + 3, none⟩ (.int .i64 (nw + 1 + q))) := ⟨hsd1, ⟨vo, hbo1, hro1⟩, hbx1, hby1, (hT.left.setrow (hgb0 (by omega)) _).setrow (hgb0 (by omega)) _⟩
      have hKO : KeepsOthers W (((W.setCell ⟨gb, o + i * 4 + 2, none⟩ (.int .i64 q)).setCell ⟨gb, o + i * 4 + 3, none⟩ (.int .i64 (nw + 1 + q))).drew.drew.drew) := ((((KeepsOthers.setCell _ _ _).trans (KeepsOthers.setCell _ _ _)).trans (KeepsOthers.drew_ _)).trans (KeepsOthers.drew_ _)).trans (KeepsOthers.drew_ _)
      have hKp1 : OpKp its (w.heap.size + 1 + 1) g gb o W (((W.setCell ⟨gb, o + i * 4 + 2, none⟩ (.int .i64 q)).setCell ⟨gb, o + i * 4 + 3, none⟩ (.int .i64 (nw + 1 + q))).drew.drew.drew) := by
        refine ⟨?_, ?_, fun j hj => ?_⟩
        · exact (cell_far (p := ⟨gb, o + i * 4 + 3, none⟩) (by show w.heap.size + 1 + 1 ≠ gb; omega) _).trans (cell_far (p := ⟨gb, o + i * 4 + 2, none⟩) (by show w.heap.size + 1 + 1 ≠ gb; omega) _)
        · exact (cell_far (p := ⟨gb, o + i * 4 + 3, none⟩) (by show g ≠ gb; exact hne.symm) _).trans (cell_far (p := ⟨gb, o + i * 4 + 2, none⟩) (by show g ≠ gb; exact hne.symm) _)
        · refine ((k54_cells hsd1.row j hj).1.1).trans (Eq.trans ?_ ((k54_cells hT.sd.row j hj).1.1).symm)
          rw [getD_set_S]
          split
          · rename_i h; rw [← h.1, hy]
          · rfl
      have hT3 := ((hT1.ext (below_drew (Below.refl _ _)) hn).ext (below_drew (Below.refl _ _)) hn).ext (below_drew (Below.refl _ _)) hn
      clear hro1 hbo1 hbx1 hby1 hsd1 hT1 hx2 hx3 hxf hxf2 hxf3 hcb hc5 hc3 hc4 hd hq' hw2
      generalize (((W.setCell ⟨gb, o + i * 4 + 2, none⟩ (.int .i64 q)).setCell ⟨gb, o + i * 4 + 3, none⟩ (.int .i64 (nw + 1 + q))).drew.drew.drew) = W3 at hKp1 hT3 hKO ⊢
      have HT := Aside0.mk hT
      obtain ⟨v3, hbo3, hro3⟩ := hT3.out
      obtain ⟨A3, c3, e3, hc3'⟩ := Kd.R_reads hro3
      subst e3
      clear hc3'
      have hcb := hT3.box.cell
      have hc4 := blk_cell hT3.sd.blk 4
      have hco := hbo3.cell
      have hbsi : IntKind.i64.wrap (bs + (i : Int)) = bs + i := (i64_w _).trans (wrap64_in (by omega) (by omega))
      have hlen := hrf.2
      simp only [List.length_map] at hlen
      clear hrf hT
      refine startIn_ (S := fun w' => w'.cell? ⟨w.heap.size + 1, 0, none⟩ = some (.slice A3 st.2.length c3) ∧ w'.cell? ⟨w.heap.size, 0, none⟩ = some (.pointer (some ⟨g, 0, none⟩)) ∧ w'.cell? ⟨g, 4, none⟩ = some (.int .i64 bs)) (ds := [9]) #[false, false, false, false, false, false, false, false, false, false] (by kernel_rfl) (by kernel_rfl) (fun ⟨_, _, h⟩ => h) rfl rfl ⟨hco, hcb, by simpa using hc4⟩ (fun hHeld => ?_)
      have hT4 := hT3.ext (below_drew (Below.refl _ _)) hn
      have hbo4 : Boxed W3.drew (w.heap.size + 1) 37 (.slice A3 st.2.length c3) := hbo3
      have hro4 := Kd.R_drew hro3
      have hKO4 := hKO.trans (KeepsOthers.drew_ _)
      have hKp4 : OpKp its (w.heap.size + 1 + 1) g gb o W W3.drew := hKp1.trans ⟨rfl, rfl, fun _ _ => rfl⟩
      generalize W3.drew = W4 at hHeld hT4 hbo4 hro4 hKO4 hKp4 ⊢
      clear hT3 hbo3 hro3 hKO hKp1 hcb hc4 hco
      refine pure_ (i := 5) (N := some 58) (v := ?_) (a' := ?_) #[false, false, false, false, false, true, false, false, false, false] rfl rfl (by kernel_rfl) (fun _ _ _ h => h) (Or.inl ⟨by rfl, ?_⟩) ?_ ?_
      rotate_left
      · intro w'
        go_simp
        with_reducible rfl
      rotate_left
      · simp only [Act.put, List.setIfInBounds_toArray, List.set_cons_zero, List.set_cons_succ, i64_w, i32_w]
        rfl
      refine take_ (i := 0) (N := some 53) (v := ?_) (a' := ?_) #[true, false, false, false, false, true, false, false, false, false] rfl rfl (by kernel_rfl) (fun _ _ _ h => h) (Or.inl ⟨by rfl, ?_⟩) hHeld ?_ ?_
      rotate_left
      · rintro w' ⟨s0, s1, s2⟩
        go_simp
        with_reducible rfl
      rotate_left
      · simp only [Act.put, List.setIfInBounds_toArray, List.set_cons_zero, List.set_cons_succ, i64_w, i32_w]
        rfl
      refine take_ (i := 1) (N := some 54) (v := ?_) (a' := ?_) #[true, true, false, false, false, true, false, false, false, false] rfl rfl (by kernel_rfl) (fun _ _ _ h => h) (Or.inl ⟨by rfl, ?_⟩) hHeld ?_ ?_
      rotate_left
      · rintro w' ⟨s0, s1, s2⟩
        go_simp
        with_reducible rfl
      rotate_left
      · simp only [Act.put, List.setIfInBounds_toArray, List.set_cons_zero, List.set_cons_succ, i64_w, i32_w]
        rfl
      refine pure_ (i := 2) (N := some 55) (v := ?_) (a' := ?_) #[true, true, true, false, false, true, false, false, false, false] rfl rfl (by kernel_rfl) (fun _ _ _ h => h) (Or.inl ⟨by rfl, ?_⟩) ?_ ?_
      rotate_left
      · intro w'
        go_simp
        with_reducible rfl
      rotate_left
      · simp only [Act.put, List.setIfInBounds_toArray, List.set_cons_zero, List.set_cons_succ, i64_w, i32_w]
        rfl
      refine pure_ (i := 3) (N := some 56) (v := ?_) (a' := ?_) #[true, true, true, true, false, true, false, false, false, false] rfl rfl (by kernel_rfl) (fun _ _ _ h => h) (Or.inl ⟨by rfl, ?_⟩) ?_ ?_
      rotate_left
      · intro w'
        go_simp
        with_reducible rfl
      rotate_left
      · simp only [Act.put, List.setIfInBounds_toArray, List.set_cons_zero, List.set_cons_succ, i64_w, i32_w]
        rfl
      refine take_ (i := 4) (N := some 57) (v := ?_) (a' := ?_) #[true, true, true, true, true, true, false, false, false, false] rfl rfl (by kernel_rfl) (fun _ _ _ h => h) (Or.inl ⟨by rfl, ?_⟩) hHeld ?_ ?_
      rotate_left
      · rintro w' ⟨s0, s1, s2⟩
        go_simp
        with_reducible rfl
      rotate_left
      · simp only [Act.put, List.setIfInBounds_toArray, List.set_cons_zero, List.set_cons_succ, i64_w, i32_w]
        rfl
      refine pure_ (i := 6) (N := some 59) (v := ?_) (a' := ?_) #[true, true, true, true, true, true, true, false, false, false] rfl rfl (by kernel_rfl) (fun _ _ _ h => h) (Or.inl ⟨by rfl, ?_⟩) ?_ ?_
      rotate_left
      · intro w'
        go_simp
        with_reducible rfl
      rotate_left
      · simp only [Act.put, List.setIfInBounds_toArray, List.set_cons_zero, List.set_cons_succ, i64_w, i32_w]
        rfl
      have hAl : Below W4.heap.size W4 (W4.alloc (.cells #[.int .i64 (bs + i)] 3)) := (Below.refl _ _).alloc (Nat.le_refl _) _
      refine one_ (i := 7) (N := some 60) #[true, true, true, true, true, true, true, true, false, false] rfl rfl (by kernel_rfl) (by decide) (fun K hK => ?_)
      refine value_ (w1 := ?_) (v := ?_) (by rfl) rfl ?_ ?_
      rotate_left 2
      · go_simp
        constructor
        · rfl
        · rfl
      refine hK.out _ _ ⟨pw_cell_below hAl hHeld.1, pw_cell_below hAl hHeld.2.1, pw_cell_below hAl hHeld.2.2⟩ (fun hHeld2 => ?_)
      clear hK K
      refine norm_ (a' := ?_) ?_ ?_
      rotate_left
      · show Act.put _ (some 60) _ = _
        simp only [Act.put, List.setIfInBounds_toArray, List.set_cons_zero, List.set_cons_succ, i64_w, i32_w]
        rfl
      refine one_ (i := 8) (N := some 61) #[true, true, true, true, true, true, true, true, true, false] rfl rfl (by kernel_rfl) (by decide) (fun K hK => ?_)
      refine Kd.R_append_step (Kd.int .i64) (w0 := W4) (W := W4) w.heap.size (by rfl) (.tmp 53) (.tmp 60) 37 3 (.int .i64 0) 8 rfl Try.underlying37 info3 rfl (by decide) (by omega) (.slice A3 st.2.length c3) st.2 (bs + i) [.int .i64 (bs + i)] (fun _ => True) (fun _ => False) rfl rfl rfl (fun _ hk => hk.elim) (fun _ _ => trivial) hro4 (Below.refl _ _) hT4.left.keep.1 (by omega) ?_
      intro v1 w1 ho hb1 hg1 hat
      obtain ⟨hT5, hKO5, hOth⟩ := hT4.append hbo4 hro4 ho hg1 hn
      obtain ⟨A5, c5, e5⟩ := Kd.R_slice ho
      rw [show (st.2 ++ [bs + (i : Int)]).length = st.2.length + 1 by simp] at e5
      subst e5
      have hc5 := pw_cell_grown hbo4 hg1 (Kd.R_ne hro4 hbo4 (by decide))
      have hf5 := pw_frozen_grown hbo4 hg1 (Kd.R_ne hro4 hbo4 (by decide))
      refine hK.out _ _ ⟨hc5, ?_, ?_⟩ (fun hHeld3 => ?_)
      · exact pw_cell_grown hT4.box hg1 (Kd.R_ne hro4 (show W4.heap[w.heap.size]? = some (.cells #[.pointer (some ⟨g, 0, none⟩)] 24 (0, 0)) from hT4.box) (by decide))
      · simpa using blk_cell (blk_grown hT4.sd.blk hg1 (Kd.R_ne hro4 hT4.sd.blk (by decide))) 4
      clear hK K
      refine norm_ (a' := ?_) ?_ ?_
      rotate_left
      · show Act.put _ (some 61) _ = _
        simp only [Act.put, List.setIfInBounds_toArray, List.set_cons_zero, List.set_cons_succ, i64_w, i32_w]
        rfl
      refine last_ (i := 9) (N := none) #[true, true, true, true, true, true, true, true, true, true] rfl rfl (by kernel_rfl) (by decide) (fun K hK => ?_)
      refine skip_ (w1 := ?_) (by rfl) rfl ?_ ?_
      rotate_left
      · go_simp
        rfl
      refine hK.out _ _ ?_
      clear hK K
      refine done_ (by kernel_rfl) ?_
      gi_wp2
      obtain ⟨cellsg4, hgt4⟩ := Kd.Q_typed hT4.sd.row gb rfl
      have hgb4 := hgb (by omega)
      refine ⟨(hKO4.trans hKO5).from _, hKp4.trans ⟨?_, ?_, fun j _ => ?_⟩, ?_⟩
      · exact World.cell?_of_block ((hOth _ 24 _ hT4.box2 (by decide) (by omega)).trans (show _ = W4.heap[w.heap.size + 1 + 1]? from (show W4.heap[w.heap.size + 1 + 1]? = _ from hT4.box2).symm))
      · exact World.cell?_of_block ((hOth _ 47 _ hT4.sd.blk (by decide) (by omega)).trans hT4.sd.blk.symm)
      · exact World.cell?_of_block ((hOth _ 54 _ hgt4 (by decide) (by omega)).trans hgt4.symm)
      · have hend : runT c.ms bs (nw + 1) its ((pre ++ [⟨i, hi, hf0⟩] : List (OpI its)).map (·.1)) = (st.1.set i ⟨y.f0, y.f1, q, nw + 1 + q⟩, st.2 ++ [bs + (i : Int)]) := by
          rw [List.map_append, List.map_singleton, runT_snoc, hst, stepT, hy, if_neg (by omega)]
          have eq : mn (2 * y.f2) c.ms = q := hq
          rw [eq]
        show TickSt w n₀ g c bs (nw + 1) (.slice (some ⟨gb, o, none⟩) its.length cp) (runT c.ms bs (nw + 1) its ((pre ++ [⟨i, hi, hf0⟩] : List (OpI its)).map (·.1))) _
        rw [hend]
        exact hT5
  case done =>
    rintro D ys W hD hys hT hK
    have hT1 := hT
    rw [hys] at hT1
    clear hT
    have hrl := runT_length c.ms bs (nw + 1) its (opensTo its its.length)
    have hrf := (runT_f0 c.ms bs (nw + 1) its (opensTo its its.length)).2
    have hol := opensTo_length its its.length
    obtain ⟨st, hst⟩ : ∃ st, runT c.ms bs (nw + 1) its (opensTo its its.length) = st := ⟨_, rfl⟩
    rw [hst] at hT1 hrl hrf
    obtain ⟨lim, hlim⟩ : ∃ lim, mn c.wd (c.n - bs) = lim := ⟨_, rfl⟩
    have hlim' : (if c.n - bs < c.wd then c.n - bs else c.wd) = lim := hlim
    have hlb : lim ≤ 64 := by unfold mn at hlim; split at hlim <;> omega
    have HLM := Aside0.mk hlim
    clear hlim
    have HT1 := Aside0.mk hT1
    have HK := Aside0.mk hK
    have hw2 : IntKind.i64.wrap (c.n - bs) = c.n - bs := (i64_w _).trans (wrap64_in (by omega) (by omega))
    clear hT1 hK hci hcr hsdL hlfL b1 b2 bO hys
    go_wp2
    go_loopg [] (lim - its.length).toNat (fun gk wr => ∃ (j : Nat) (v1 : Value), Aside0 (gk + j = (lim - its.length).toNat) ∧ Aside0 (TickS w n₀ g c bs (nw + 1) (.slice A its.length cp) v1 (fillT bs (nw + 1) c.fs st j) wr) ∧ Aside0 (wr.heap[D]? = some (.deferred (some []))))
    case atStart => exact ⟨0, _, ⟨by omega⟩, ⟨by simpa [fillT] using HT1.out⟩, HK⟩
    case round =>
      clear HT1 HK
      obtain ⟨j, v1, HJ, HT, HK⟩ := hrel
      have hfl := fillT_length bs (nw + 1) c.fs st j
      rw [hrl] at hfl
      obtain ⟨its2, os2, hF⟩ : ∃ its2 os2, fillT bs (nw + 1) c.fs st j = (its2, os2) := ⟨_, _, rfl⟩
      rw [hF] at HT hfl
      simp only at hfl
      obtain ⟨vo, hbo, hro⟩ := HT.out.out
      obtain ⟨Ao, co, eo, hco'⟩ := Kd.R_reads hro
      subst eo
      clear hco'
      have hco := hbo.cell
      obtain ⟨A1, c1, e1, hc1⟩ := Kd.Q_slice HT.out.sd.row
      subst e1
      have hcb := HT.out.box.cell
      have hc0 := blk_cell HT.out.sd.blk 0
      have hcw1 := blk_cell HT.out.sd.blk 1
      have hc4 := blk_cell HT.out.sd.blk 4
      have hc6 := blk_cell HT.out.sd.blk 6
      obtain ⟨L, hL⟩ : ∃ L, its.length + j = L := ⟨_, rfl⟩
      rw [hL] at hfl
      rw [hfl.1] at hc6
      have hos : os2.length ≤ its.length + j := by omega
      have HF1 := Aside0.mk hfl.1
      clear hfl
      by_cases hlt : (L : Int) < lim
      · have hd : decide ((L : Int) < lim) = true := decide_eq_true hlt
        have hwL : IntKind.i64.wrap (bs + (L : Int)) = bs + L := (i64_w _).trans (wrap64_in (by omega) (by omega))
        go_wp2
        go_quiet (fail)
        go_wp2
        clear hd hlim' hw2
        refine wp_region_noPanic ?_
        refine start_ (n := 14) (S := fun w' => w'.cell? ⟨w.heap.size + 1, 0, none⟩ = some (.slice Ao os2.length co) ∧ w'.cell? ⟨w.heap.size, 0, none⟩ = some (.pointer (some ⟨g, 0, none⟩)) ∧ w'.cell? ⟨g, 4, none⟩ = some (.int .i64 bs) ∧ w'.cell? ⟨g, 6, none⟩ = some (.slice A1 L c1)) (ds := [13]) #[false, false, false, false, false, false, false, false, false, false, false, false, false, false] (by kernel_rfl) rfl rfl ⟨hco, hcb, by simpa using hc4, by simpa using hc6⟩ (fun hHeld => ?_)
        have hT4 := HT.out.ext (below_drew (pw_below_drewN (Below.refl _ _) nq)) hn
        have hbo4 : Boxed (wr.drewN nq).drew (w.heap.size + 1) 37 (.slice Ao os2.length co) := hbo
        have hro4 := Kd.R_drew (Kd.R_drewN hro nq)
        have hKD4 : (wr.drewN nq).drew.heap[D]? = some (.deferred (some [])) := HK.out
        generalize (wr.drewN nq).drew = W4 at hHeld hT4 hbo4 hro4 hKD4 ⊢
        clear hcb hc0 hcw1 hc4 hc6 hco hbo hro HT HK
        have hAl : Below W4.heap.size W4 (W4.alloc (.cells #[.int .i64 (bs + (L : Int))] 3)) := (Below.refl _ _).alloc (Nat.le_refl _) _
        refine take_ (i := 0) (N := some 82) (v := ?_) (a' := ?_) #[true, false, false, false, false, false, false, false, false, false, false, false, false, false] rfl rfl (by kernel_rfl) (fun _ _ _ h => h) (Or.inl ⟨by rfl, ?_⟩) hHeld ?_ ?_
        rotate_left
        · rintro w' ⟨s0, s1, s2, s3⟩
          go_simp
          with_reducible rfl
        rotate_left
        · simp only [Act.put, List.setIfInBounds_toArray, List.set_cons_zero, List.set_cons_succ, i64_w, i32_w]
          rfl
        refine take_ (i := 1) (N := some 83) (v := ?_) (a' := ?_) #[true, true, false, false, false, false, false, false, false, false, false, false, false, false] rfl rfl (by kernel_rfl) (fun _ _ _ h => h) (Or.inl ⟨by rfl, ?_⟩) hHeld ?_ ?_
        rotate_left
        · rintro w' ⟨s0, s1, s2, s3⟩
          go_simp
          with_reducible rfl
        rotate_left
        · simp only [Act.put, List.setIfInBounds_toArray, List.set_cons_zero, List.set_cons_succ, i64_w, i32_w]
          rfl
        refine pure_ (i := 2) (N := some 84) (v := ?_) (a' := ?_) #[true, true, true, false, false, false, false, false, false, false, false, false, false, false] rfl rfl (by kernel_rfl) (fun _ _ _ h => h) (Or.inl ⟨by rfl, ?_⟩) ?_ ?_
        rotate_left
        · intro w'
          go_simp
          with_reducible rfl
        rotate_left
        · simp only [Act.put, List.setIfInBounds_toArray, List.set_cons_zero, List.set_cons_succ, i64_w, i32_w]
          rfl
        refine pure_ (i := 3) (N := some 85) (v := ?_) (a' := ?_) #[true, true, true, true, false, false, false, false, false, false, false, false, false, false] rfl rfl (by kernel_rfl) (fun _ _ _ h => h) (Or.inl ⟨by rfl, ?_⟩) ?_ ?_
        rotate_left
        · intro w'
          go_simp
          with_reducible rfl
        rotate_left
        · simp only [Act.put, List.setIfInBounds_toArray, List.set_cons_zero, List.set_cons_succ, i64_w, i32_w]
          rfl
        refine take_ (i := 4) (N := some 86) (v := ?_) (a' := ?_) #[true, true, true, true, true, false, false, false, false, false, false, false, false, false] rfl rfl (by kernel_rfl) (fun _ _ _ h => h) (Or.inl ⟨by rfl, ?_⟩) hHeld ?_ ?_
        rotate_left
        · rintro w' ⟨s0, s1, s2, s3⟩
          go_simp
          with_reducible rfl
        rotate_left
        · simp only [Act.put, List.setIfInBounds_toArray, List.set_cons_zero, List.set_cons_succ, i64_w, i32_w]
          rfl
        refine take_ (i := 5) (N := some 87) (v := ?_) (a' := ?_) #[true, true, true, true, true, true, false, false, false, false, false, false, false, false] rfl rfl (by kernel_rfl) (fun _ _ _ h => h) (Or.inl ⟨by rfl, ?_⟩) hHeld ?_ ?_
        rotate_left
        · rintro w' ⟨s0, s1, s2, s3⟩
          go_simp
          with_reducible rfl
        rotate_left
        · simp only [Act.put, List.setIfInBounds_toArray, List.set_cons_zero, List.set_cons_succ, i64_w, i32_w]
          rfl
        refine pure_ (i := 6) (N := some 88) (v := ?_) (a' := ?_) #[true, true, true, true, true, true, true, false, false, false, false, false, false, false] rfl rfl (by kernel_rfl) (fun _ _ _ h => h) (Or.inl ⟨by rfl, ?_⟩) ?_ ?_
        rotate_left
        · intro w'
          go_simp
          with_reducible rfl
        rotate_left
        · simp only [Act.put, List.setIfInBounds_toArray, List.set_cons_zero, List.set_cons_succ, i64_w, i32_w]
          rfl
        refine pure_ (i := 7) (N := some 89) (v := ?_) (a' := ?_) #[true, true, true, true, true, true, true, true, false, false, false, false, false, false] rfl rfl (by kernel_rfl) (fun _ _ _ h => h) (Or.inl ⟨by rfl, ?_⟩) ?_ ?_
        rotate_left
        · intro w'
          go_simp
          with_reducible rfl
        rotate_left
        · simp only [Act.put, List.setIfInBounds_toArray, List.set_cons_zero, List.set_cons_succ, i64_w, i32_w]
          rfl
        refine take_ (i := 8) (N := some 90) (v := ?_) (a' := ?_) #[true, true, true, true, true, true, true, true, true, false, false, false, false, false] rfl rfl (by kernel_rfl) (fun _ _ _ h => h) (Or.inl ⟨by rfl, ?_⟩) hHeld ?_ ?_
        rotate_left
        · rintro w' ⟨s0, s1, s2, s3⟩
          go_simp
          with_reducible rfl
        rotate_left
        · simp only [Act.put, List.setIfInBounds_toArray, List.set_cons_zero, List.set_cons_succ, i64_w, i32_w]
          rfl
        refine pure_ (i := 9) (N := some 91) (v := ?_) (a' := ?_) #[true, true, true, true, true, true, true, true, true, true, false, false, false, false] rfl rfl (by kernel_rfl) (fun _ _ _ h => h) (Or.inl ⟨by rfl, ?_⟩) ?_ ?_
        rotate_left
        · intro w'
          go_simp
          with_reducible rfl
        rotate_left
        · simp only [Act.put, List.setIfInBounds_toArray, List.set_cons_zero, List.set_cons_succ, i64_w, i32_w]
          rfl
        refine pure_ (i := 10) (N := some 92) (v := ?_) (a' := ?_) #[true, true, true, true, true, true, true, true, true, true, true, false, false, false] rfl rfl (by kernel_rfl) (fun _ _ _ h => h) (Or.inl ⟨by rfl, ?_⟩) ?_ ?_
        rotate_left
        · intro w'
          go_simp
          with_reducible rfl
        rotate_left
        · simp only [Act.put, List.setIfInBounds_toArray, List.set_cons_zero, List.set_cons_succ, i64_w, i32_w]
          rfl
        refine one_ (i := 11) (N := some 93) #[true, true, true, true, true, true, true, true, true, true, true, true, false, false] rfl rfl (by kernel_rfl) (by decide) (fun K hK => ?_)
        refine value_ (w1 := ?_) (v := ?_) (by rfl) rfl ?_ ?_
        rotate_left 2
        · go_simp
          constructor
          · rfl
          · rfl
        refine hK.out _ _ ⟨pw_cell_below hAl hHeld.1, pw_cell_below hAl hHeld.2.1, pw_cell_below hAl hHeld.2.2.1, pw_cell_below hAl hHeld.2.2.2⟩ (fun hHeld2 => ?_)
        clear hK K
        refine norm_ (a' := ?_) ?_ ?_
        rotate_left
        · show Act.put _ (some 93) _ = _
          simp only [Act.put, List.setIfInBounds_toArray, List.set_cons_zero, List.set_cons_succ, i64_w, i32_w]
          rfl
        refine one_ (i := 12) (N := some 94) #[true, true, true, true, true, true, true, true, true, true, true, true, true, false] rfl rfl (by kernel_rfl) (by decide) (fun K hK => ?_)
        refine Kd.R_append_step (Kd.int .i64) (w0 := W4) (W := W4) w.heap.size (by rfl) (.tmp 82) (.tmp 93) 37 3 (.int .i64 0) 8 rfl Try.underlying37 info3 rfl (by decide) (by omega) (.slice Ao os2.length co) os2 (bs + (L : Int)) [.int .i64 (bs + (L : Int))] (fun _ => True) (fun _ => False) rfl rfl rfl (fun _ hk => hk.elim) (fun _ _ => trivial) hro4 (Below.refl _ _) hT4.left.keep.1 (by omega) ?_
        intro v5 w5 ho hb5 hg5 hat5
        obtain ⟨hT5, hKO5, hOth⟩ := hT4.append hbo4 hro4 ho hg5 hn
        obtain ⟨A5, c5, e5⟩ := Kd.R_slice ho
        rw [show (os2 ++ [bs + (L : Int)]).length = os2.length + 1 by simp] at e5
        subst e5
        have hc5 := pw_cell_grown hbo4 hg5 (Kd.R_ne hro4 hbo4 (by decide))
        have hf5 := pw_frozen_grown hbo4 hg5 (Kd.R_ne hro4 hbo4 (by decide))
        have hgr := blk_grown hT4.sd.blk hg5 (Kd.R_ne hro4 hT4.sd.blk (by decide))
        refine hK.out _ _ ⟨hc5, pw_cell_grown hT4.box hg5 (Kd.R_ne hro4 (show W4.heap[w.heap.size]? = some (.cells #[.pointer (some ⟨g, 0, none⟩)] 24 (0, 0)) from hT4.box) (by decide)), by simpa using blk_cell hgr 4, by have h := blk_cell hgr 6; rw [HF1.out] at h; simpa using h⟩ (fun hHeld3 => ?_)
        clear hK K
        refine norm_ (a' := ?_) ?_ ?_
        rotate_left
        · show Act.put _ (some 94) _ = _
          simp only [Act.put, List.setIfInBounds_toArray, List.set_cons_zero, List.set_cons_succ, i64_w, i32_w]
          rfl
        refine last_ (i := 13) (N := none) #[true, true, true, true, true, true, true, true, true, true, true, true, true, true] rfl rfl (by kernel_rfl) (by decide) (fun K hK => ?_)
        refine skip_ (w1 := ?_) (by rfl) rfl ?_ ?_
        rotate_left
        · go_simp
          rfl
        refine hK.out _ _ ?_
        clear hK K
        refine done_ (by kernel_rfl) (NoPanic.normal ?_)
        have HK5 := Aside0.mk (hKO5.same D _ hKD4 rfl)
        clear hHeld hHeld2 hHeld3 hc5 hf5 hgr hT4 hbo4 hro4 hKO5 hOth ho hg5 hat5 hb5 hKD4 hAl
        generalize w5.setCell ⟨w.heap.size + 1, 0, none⟩ (.slice A5 (os2.length + 1) c5) = W5 at hT5 HK5 ⊢
        have hcb := hT5.box.cell
        have hc2 := blk_cell hT5.sd.blk 2
        have hc5 := blk_cell hT5.sd.blk 5
        have hc6 := blk_cell hT5.sd.blk 6
        rw [HF1.out] at hc6
        go_wp2
        refine wp_region_noPanic ?_
        refine start_ (n := 24) (S := fun w' => w'.cell? ⟨w.heap.size, 0, none⟩ = some (.pointer (some ⟨g, 0, none⟩)) ∧ w'.cell? ⟨g, 6, none⟩ = some (.slice A1 L c1) ∧ w'.cell? ⟨g, 2, none⟩ = some (.int .i64 c.fs) ∧ w'.cell? ⟨g, 5, none⟩ = some (.int .i64 (nw + 1))) (ds := [23]) #[false, false, false, false, false, false, false, false, false, false, false, false, false, false, false, false, false, false, false, false, false, false, false, false] (by kernel_rfl) rfl rfl ⟨hcb, by simpa using hc6, by simpa using hc2, by simpa using hc5⟩ (fun hH => ?_)
        have hT6 := hT5.ext (below_drew (Below.refl _ _)) hn
        have hK6 : W5.drew.heap[D]? = some (.deferred (some [])) := HK5.out
        generalize W5.drew = W6 at hH hT6 hK6 ⊢
        clear hT5 HK5 hcb hc2 hc5 hc6
        have hq6 : Kd.Q k54 54 W6 n₀ (fun _ => True) (.slice A1 L c1) its2 := by have h := hT6.sd.row; rw [HF1.out] at h; exact h
        have hwf : IntKind.i64.wrap (nw + 1 + c.fs) = nw + 1 + c.fs := (i64_w _).trans (wrap64_in (by omega) (by omega))
        have hAl : Below W6.heap.size W6 (W6.alloc (.cells #[.bool false, .bool false, .int .i64 c.fs, .int .i64 (nw + 1 + c.fs)] 54)) := (Below.refl _ _).alloc (Nat.le_refl _) _
        refine take_ (i := 0) (N := some 95) (v := ?_) (a' := ?_) #[true, false, false, false, false, false, false, false, false, false, false, false, false, false, false, false, false, false, false, false, false, false, false, false] rfl rfl (by kernel_rfl) (fun _ _ _ h => h) (Or.inl ⟨by rfl, ?_⟩) hH ?_ ?_
        rotate_left
        · rintro w' ⟨s0, s1, s2, s3⟩
          go_simp
          with_reducible rfl
        rotate_left
        · simp only [Act.put, List.setIfInBounds_toArray, List.set_cons_zero, List.set_cons_succ, i64_w, i32_w]
          rfl
        refine take_ (i := 1) (N := some 96) (v := ?_) (a' := ?_) #[true, true, false, false, false, false, false, false, false, false, false, false, false, false, false, false, false, false, false, false, false, false, false, false] rfl rfl (by kernel_rfl) (fun _ _ _ h => h) (Or.inl ⟨by rfl, ?_⟩) hH ?_ ?_
        rotate_left
        · rintro w' ⟨s0, s1, s2, s3⟩
          go_simp
          with_reducible rfl
        rotate_left
        · simp only [Act.put, List.setIfInBounds_toArray, List.set_cons_zero, List.set_cons_succ, i64_w, i32_w]
          rfl
        refine pure_ (i := 2) (N := some 97) (v := ?_) (a' := ?_) #[true, true, true, false, false, false, false, false, false, false, false, false, false, false, false, false, false, false, false, false, false, false, false, false] rfl rfl (by kernel_rfl) (fun _ _ _ h => h) (Or.inl ⟨by rfl, ?_⟩) ?_ ?_
        rotate_left
        · intro w'
          go_simp
          with_reducible rfl
        rotate_left
        · simp only [Act.put, List.setIfInBounds_toArray, List.set_cons_zero, List.set_cons_succ, i64_w, i32_w]
          rfl
        refine pure_ (i := 3) (N := some 98) (v := ?_) (a' := ?_) #[true, true, true, true, false, false, false, false, false, false, false, false, false, false, false, false, false, false, false, false, false, false, false, false] rfl rfl (by kernel_rfl) (fun _ _ _ h => h) (Or.inl ⟨by rfl, ?_⟩) ?_ ?_
        rotate_left
        · intro w'
          go_simp
          with_reducible rfl
        rotate_left
        · simp only [Act.put, List.setIfInBounds_toArray, List.set_cons_zero, List.set_cons_succ, i64_w, i32_w]
          rfl
        refine take_ (i := 4) (N := some 99) (v := ?_) (a' := ?_) #[true, true, true, true, true, false, false, false, false, false, false, false, false, false, false, false, false, false, false, false, false, false, false, false] rfl rfl (by kernel_rfl) (fun _ _ _ h => h) (Or.inl ⟨by rfl, ?_⟩) hH ?_ ?_
        rotate_left
        · rintro w' ⟨s0, s1, s2, s3⟩
          go_simp
          with_reducible rfl
        rotate_left
        · simp only [Act.put, List.setIfInBounds_toArray, List.set_cons_zero, List.set_cons_succ, i64_w, i32_w]
          rfl
        refine take_ (i := 5) (N := some 100) (v := ?_) (a' := ?_) #[true, true, true, true, true, true, false, false, false, false, false, false, false, false, false, false, false, false, false, false, false, false, false, false] rfl rfl (by kernel_rfl) (fun _ _ _ h => h) (Or.inl ⟨by rfl, ?_⟩) hH ?_ ?_
        rotate_left
        · rintro w' ⟨s0, s1, s2, s3⟩
          go_simp
          with_reducible rfl
        rotate_left
        · simp only [Act.put, List.setIfInBounds_toArray, List.set_cons_zero, List.set_cons_succ, i64_w, i32_w]
          rfl
        refine pure_ (i := 6) (N := some 101) (v := ?_) (a' := ?_) #[true, true, true, true, true, true, true, false, false, false, false, false, false, false, false, false, false, false, false, false, false, false, false, false] rfl rfl (by kernel_rfl) (fun _ _ _ h => h) (Or.inl ⟨by rfl, ?_⟩) ?_ ?_
        rotate_left
        · intro w'
          go_simp
          with_reducible rfl
        rotate_left
        · simp only [Act.put, List.setIfInBounds_toArray, List.set_cons_zero, List.set_cons_succ, i64_w, i32_w]
          rfl
        refine pure_ (i := 7) (N := some 102) (v := ?_) (a' := ?_) #[true, true, true, true, true, true, true, true, false, false, false, false, false, false, false, false, false, false, false, false, false, false, false, false] rfl rfl (by kernel_rfl) (fun _ _ _ h => h) (Or.inl ⟨by rfl, ?_⟩) ?_ ?_
        rotate_left
        · intro w'
          go_simp
          with_reducible rfl
        rotate_left
        · simp only [Act.put, List.setIfInBounds_toArray, List.set_cons_zero, List.set_cons_succ, i64_w, i32_w]
          rfl
        refine take_ (i := 8) (N := some 103) (v := ?_) (a' := ?_) #[true, true, true, true, true, true, true, true, true, false, false, false, false, false, false, false, false, false, false, false, false, false, false, false] rfl rfl (by kernel_rfl) (fun _ _ _ h => h) (Or.inl ⟨by rfl, ?_⟩) hH ?_ ?_
        rotate_left
        · rintro w' ⟨s0, s1, s2, s3⟩
          go_simp
          with_reducible rfl
        rotate_left
        · simp only [Act.put, List.setIfInBounds_toArray, List.set_cons_zero, List.set_cons_succ, i64_w, i32_w]
          rfl
        refine take_ (i := 9) (N := some 104) (v := ?_) (a' := ?_) #[true, true, true, true, true, true, true, true, true, true, false, false, false, false, false, false, false, false, false, false, false, false, false, false] rfl rfl (by kernel_rfl) (fun _ _ _ h => h) (Or.inl ⟨by rfl, ?_⟩) hH ?_ ?_
        rotate_left
        · rintro w' ⟨s0, s1, s2, s3⟩
          go_simp
          with_reducible rfl
        rotate_left
        · simp only [Act.put, List.setIfInBounds_toArray, List.set_cons_zero, List.set_cons_succ, i64_w, i32_w]
          rfl
        refine pure_ (i := 10) (N := some 105) (v := ?_) (a' := ?_) #[true, true, true, true, true, true, true, true, true, true, true, false, false, false, false, false, false, false, false, false, false, false, false, false] rfl rfl (by kernel_rfl) (fun _ _ _ h => h) (Or.inl ⟨by rfl, ?_⟩) ?_ ?_
        rotate_left
        · intro w'
          go_simp
          with_reducible rfl
        rotate_left
        · simp only [Act.put, List.setIfInBounds_toArray, List.set_cons_zero, List.set_cons_succ, i64_w, i32_w]
          rfl
        refine pure_ (i := 11) (N := some 106) (v := ?_) (a' := ?_) #[true, true, true, true, true, true, true, true, true, true, true, true, false, false, false, false, false, false, false, false, false, false, false, false] rfl rfl (by kernel_rfl) (fun _ _ _ h => h) (Or.inl ⟨by rfl, ?_⟩) ?_ ?_
        rotate_left
        · intro w'
          go_simp
          with_reducible rfl
        rotate_left
        · simp only [Act.put, List.setIfInBounds_toArray, List.set_cons_zero, List.set_cons_succ, i64_w, i32_w]
          rfl
        refine take_ (i := 12) (N := some 107) (v := ?_) (a' := ?_) #[true, true, true, true, true, true, true, true, true, true, true, true, true, false, false, false, false, false, false, false, false, false, false, false] rfl rfl (by kernel_rfl) (fun _ _ _ h => h) (Or.inl ⟨by rfl, ?_⟩) hH ?_ ?_
        rotate_left
        · rintro w' ⟨s0, s1, s2, s3⟩
          go_simp
          with_reducible rfl
        rotate_left
        · simp only [Act.put, List.setIfInBounds_toArray, List.set_cons_zero, List.set_cons_succ, i64_w, i32_w]
          rfl
        refine take_ (i := 13) (N := some 108) (v := ?_) (a' := ?_) #[true, true, true, true, true, true, true, true, true, true, true, true, true, true, false, false, false, false, false, false, false, false, false, false] rfl rfl (by kernel_rfl) (fun _ _ _ h => h) (Or.inl ⟨by rfl, ?_⟩) hH ?_ ?_
        rotate_left
        · rintro w' ⟨s0, s1, s2, s3⟩
          go_simp
          with_reducible rfl
        rotate_left
        · simp only [Act.put, List.setIfInBounds_toArray, List.set_cons_zero, List.set_cons_succ, i64_w, i32_w]
          rfl
        refine pure_ (i := 14) (N := some 109) (v := ?_) (a' := ?_) #[true, true, true, true, true, true, true, true, true, true, true, true, true, true, true, false, false, false, false, false, false, false, false, false] rfl rfl (by kernel_rfl) (fun _ _ _ h => h) (Or.inl ⟨by rfl, ?_⟩) ?_ ?_
        rotate_left
        · intro w'
          go_simp
          with_reducible rfl
        rotate_left
        · simp only [Act.put, List.setIfInBounds_toArray, List.set_cons_zero, List.set_cons_succ, i64_w, i32_w]
          rfl
        refine pure_ (i := 15) (N := some 110) (v := ?_) (a' := ?_) #[true, true, true, true, true, true, true, true, true, true, true, true, true, true, true, true, false, false, false, false, false, false, false, false] rfl rfl (by kernel_rfl) (fun _ _ _ h => h) (Or.inl ⟨by rfl, ?_⟩) ?_ ?_
        rotate_left
        · intro w'
          go_simp
          with_reducible rfl
        rotate_left
        · simp only [Act.put, List.setIfInBounds_toArray, List.set_cons_zero, List.set_cons_succ, i64_w, i32_w]
          rfl
        refine take_ (i := 16) (N := some 111) (v := ?_) (a' := ?_) #[true, true, true, true, true, true, true, true, true, true, true, true, true, true, true, true, true, false, false, false, false, false, false, false] rfl rfl (by kernel_rfl) (fun _ _ _ h => h) (Or.inl ⟨by rfl, ?_⟩) hH ?_ ?_
        rotate_left
        · rintro w' ⟨s0, s1, s2, s3⟩
          go_simp
          with_reducible rfl
        rotate_left
        · simp only [Act.put, List.setIfInBounds_toArray, List.set_cons_zero, List.set_cons_succ, i64_w, i32_w]
          rfl
        refine pure_ (i := 17) (N := some 112) (v := ?_) (a' := ?_) #[true, true, true, true, true, true, true, true, true, true, true, true, true, true, true, true, true, true, false, false, false, false, false, false] rfl rfl (by kernel_rfl) (fun _ _ _ h => h) (Or.inl ⟨by rfl, ?_⟩) ?_ ?_
        rotate_left
        · intro w'
          go_simp
          with_reducible rfl
        rotate_left
        · simp only [Act.put, List.setIfInBounds_toArray, List.set_cons_zero, List.set_cons_succ, i64_w, i32_w]
          rfl
        refine pure_ (i := 18) (N := some 113) (v := ?_) (a' := ?_) #[true, true, true, true, true, true, true, true, true, true, true, true, true, true, true, true, true, true, true, false, false, false, false, false] rfl rfl (by kernel_rfl) (fun _ _ _ h => h) (Or.inl ⟨by rfl, ?_⟩) ?_ ?_
        rotate_left
        · intro w'
          go_simp
          with_reducible rfl
        rotate_left
        · simp only [Act.put, List.setIfInBounds_toArray, List.set_cons_zero, List.set_cons_succ, i64_w, i32_w]
          rfl
        refine one_ (i := 19) (N := some 114) #[true, true, true, true, true, true, true, true, true, true, true, true, true, true, true, true, true, true, true, true, false, false, false, false] rfl rfl (by kernel_rfl) (by decide) (fun K hK => ?_)
        refine value_ (w1 := ?_) (v := ?_) (by rfl) rfl ?_ ?_
        rotate_left 2
        · go_simp
          constructor
          · rfl
          · rfl
        refine hK.out _ _ ⟨pw_cell_below hAl hH.1, pw_cell_below hAl hH.2.1, pw_cell_below hAl hH.2.2.1, pw_cell_below hAl hH.2.2.2⟩ (fun hHeld2 => ?_)
        clear hK K
        refine norm_ (a' := ?_) ?_ ?_
        rotate_left
        · show Act.put _ (some 114) _ = _
          simp only [Act.put, List.setIfInBounds_toArray, List.set_cons_zero, List.set_cons_succ, i64_w, i32_w]
          rfl
        refine one_ (i := 20) (N := some 115) #[true, true, true, true, true, true, true, true, true, true, true, true, true, true, true, true, true, true, true, true, true, false, false, false] rfl rfl (by kernel_rfl) (by decide) (fun K hK => ?_)
        refine Kd.Q_append_step k54 (w0 := W6) (W := W6) n₀ (by rfl) (.tmp 99) (.tmp 114) 45 54 (.agg #[.bool false, .bool false, .int .i64 0, .int .i64 0]) 24 rfl Try.underlying45 info54 rfl (by decide) (by omega) (.slice A1 L c1) its2 ⟨false, false, c.fs, nw + 1 + c.fs⟩ [.bool false, .bool false, .int .i64 c.fs, .int .i64 (nw + 1 + c.fs)] (fun _ => True) (fun _ => False) rfl rfl (k54_mkM _ _ _ _) (fun _ hk => hk.elim) (fun _ _ => trivial) hq6 (Below.refl _ _) (Nat.le_trans hn hT6.left.keep.1) ?aL ?_
        (case aL => have := HF1.out; omega)
        intro v7 w7 ho7 hb7 hg7 hat7
        obtain ⟨A7, c7, e7, hc7⟩ := Kd.Q_slice ho7
        rw [show (its2 ++ [(⟨false, false, c.fs, nw + 1 + c.fs⟩ : S54)]).length = L + 1 by rw [List.length_append, HF1.out]; rfl] at e7
        subst e7
        have hgr := blk_grown hT6.sd.blk hg7 (Kd.Q_ne hq6 hT6.sd.blk (by decide))
        have hT7 := hT6.grow hT6.sd.row ho7 (by rw [HF1.out]; exact hg7) (by rw [HF1.out]; exact hat7) hn
        have hK7 : (w7.setCell ⟨g, 6, none⟩ (.slice A7 (L + 1) c7)).heap[D]? = some (.deferred (some [])) := by
          refine ((KeepsOthers.of_grownBy hg7 (fun j o ej hj => ?_)).trans (KeepsOthers.setCell _ _ _)).same D _ hK6 rfl
          obtain ⟨cells, h2⟩ := Kd.Q_typed hq6 j ej
          rw [h2] at hj
          cases hj
          rfl
        have hc6 : w7.cell? ⟨g, 6, none⟩ = some (.slice A1 L c1) := by have h := blk_cell hgr 6; rw [HF1.out] at h; simpa using h
        have hf6 := blk_frozen hgr 6
        refine hK.out _ _ ⟨pw_cell_grown hT6.box hg7 (Kd.Q_ne hq6 (show W6.heap[w.heap.size]? = some (.cells #[.pointer (some ⟨g, 0, none⟩)] 24 (0, 0)) from hT6.box) (by decide)), hc6, by simpa using blk_cell hgr 2, by simpa using blk_cell hgr 5⟩ (fun hHeld3 => ?_)
        clear hK K
        refine norm_ (a' := ?_) ?_ ?_
        rotate_left
        · show Act.put _ (some 115) _ = _
          simp only [Act.put, List.setIfInBounds_toArray, List.set_cons_zero, List.set_cons_succ, i64_w, i32_w]
          rfl
        refine pure_ (i := 21) (N := some 116) (v := ?_) (a' := ?_) #[true, true, true, true, true, true, true, true, true, true, true, true, true, true, true, true, true, true, true, true, true, true, false, false] rfl rfl (by kernel_rfl) (fun _ _ _ h => h) (Or.inl ⟨by rfl, ?_⟩) ?_ ?_
        rotate_left
        · intro w'
          go_simp
          with_reducible rfl
        rotate_left
        · simp only [Act.put, List.setIfInBounds_toArray, List.set_cons_zero, List.set_cons_succ, i64_w, i32_w]
          rfl
        refine pure_ (i := 22) (N := some 117) (v := ?_) (a' := ?_) #[true, true, true, true, true, true, true, true, true, true, true, true, true, true, true, true, true, true, true, true, true, true, true, false] rfl rfl (by kernel_rfl) (fun _ _ _ h => h) (Or.inl ⟨by rfl, ?_⟩) ?_ ?_
        rotate_left
        · intro w'
          go_simp
          with_reducible rfl
        rotate_left
        · simp only [Act.put, List.setIfInBounds_toArray, List.set_cons_zero, List.set_cons_succ, i64_w, i32_w]
          rfl
        refine last_ (i := 23) (N := none) #[true, true, true, true, true, true, true, true, true, true, true, true, true, true, true, true, true, true, true, true, true, true, true, true] rfl rfl (by kernel_rfl) (by decide) (fun K hK => ?_)
        refine skip_ (w1 := ?_) (by rfl) rfl ?_ ?_
        rotate_left
        · go_simp
          rfl
        refine hK.out _ _ ?_
        clear hK K
        refine done_ (by kernel_rfl) (NoPanic.normal ?_)
        obtain ⟨gk', hgk⟩ : ∃ gk', gk = gk' + 1 := ⟨gk - 1, by have := HJ.out; omega⟩
        have HE := Aside0.mk (show TickS w n₀ g c bs (nw + 1) (.slice A its.length cp) (.slice A7 (L + 1) c7) (fillT bs (nw + 1) c.fs st (j + 1)) (w7.setCell ⟨g, 6, none⟩ (.slice A7 (L + 1) c7)) by
          rw [fillT_succ, hF, hrl, hL]
          exact hT7)
        have HKE := Aside0.mk hK7
        clear hT7 hK7 hT6 hq6 ho7 hg7 hat7 hb7 hgr hc6 hf6 hH hHeld2 hHeld3 hK6 hAl hwf hwL
        go_wp2
        go_roundg gk'
        case measure => omega
        case rel => exact ⟨j + 1, _, ⟨by have := HJ.out; omega⟩, HE, HKE⟩
      · have hd : decide ((L : Int) < lim) = false := decide_eq_false hlt
        go_wp2
        go_quiet (fail)
        go_wp2
        rw [Exit.noGoto_ret]
        refine ⟨by simp, .inl ⟨_, _, rfl, run_takeDeferred (show (wr.drewN nq).heap[D]? = some (.deferred (some [])) from HK.out), ?_⟩⟩
        refine ⟨_, results_tmp rfl _ _ _, ?_⟩
        have hjm : j = (lim - its.length).toNat := by have := HJ.out; omega
        have hT8 := (HT.out.ext (pw_below_drewN (Below.refl _ _) nq) hn)
        rw [HF1.out] at hT8
        have hT9 := OwnFrom.putObj (TickS.own w n₀ g c bs (nw + 1) (.slice A its.length cp) (.slice A1 L c1) (fun _ : Unit => (its2, os2)) w.heap.size (Nat.le_refl _) hn) (s := ()) (.deferred none) hT8 (show w.heap.size ≤ D by simp [hz5] at hD; omega) (show (wr.drewN nq).heap[D]? = some (.deferred (some [])) from HK.out) rfl
        have htl : tickL c bs nw its = (its2, os2) := by
          unfold tickL
          rw [hst, HLM.out, ← hjm, hF]
        obtain ⟨vo9, hbo9, hro9⟩ := hT9.out
        have evo : vo9 = .slice Ao os2.length co := by
          have h1 : ((wr.drewN nq).putObj D (.deferred none)).heap[w.heap.size + 1]? = some (.cells #[.slice Ao os2.length co] 37 (0, 0)) := (World.putObj_heap_other (by simp [hz5] at hD; omega)).trans (show (wr.drewN nq).heap[w.heap.size + 1]? = _ from hbo)
          have h2 : ((wr.drewN nq).putObj D (.deferred none)).heap[w.heap.size + 1]? = some (.cells #[vo9] 37 (0, 0)) := hbo9
          rw [h1] at h2
          injection h2 with h2
          injection h2 with h3
          have := congrArg (·[0]?) h3
          simpa using this.symm
        subst evo
        exact ⟨_, _, rfl, by rw [htl]; exact hT9.sd, by rw [htl]; exact hro9, hT9.left⟩
  case stop =>
    rintro D c pre W _ _ h _
    exact h.elim
theorem tick_walk {n₀ g : Nat} {c : Cfg} {bs nw : Int} {vs : Value} {its : List S54} (w : World) (hI : IsSd w n₀ g c bs nw vs its) (hm : its.length ≤ 1000000) (hms : 0 ≤ c.ms ∧ c.ms ≤ 65536) (hgap : ∀ j, 0 ≤ (its.getD j z54).f2 ∧ (its.getD j z54).f2 ≤ 65536) (hnw : 0 ≤ nw ∧ nw ≤ 1000000000000) (hbs : 0 ≤ bs ∧ bs ≤ 1000000000000) (hn : n₀ ≤ w.heap.size) (hcn : 0 ≤ c.n ∧ c.n ≤ 1048577) (hcw : 0 ≤ c.wd ∧ c.wd ≤ 64) (hcf : 0 ≤ c.fs ∧ c.fs ≤ 65536) :
    Calls Try.prog 15 #[.pointer (some ⟨g, 0, none⟩)] w fun e W' => TickPost w n₀ g c bs nw vs (tickL c bs nw its) e W' :=
  (callsIn_wide (n := 3)).1 (tick_in w hI hm hms hgap hnw hbs hn hcn hcw hcf)
end Go.Proofs.Ytfmggodmhklfoaa.Lib
