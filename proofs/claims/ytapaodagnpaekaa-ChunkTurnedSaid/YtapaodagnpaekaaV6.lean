/- chunk: what Push does, step by step, in plain Lean; what holds between two steps. -/
import Derived.Test.YtapaodagnpaekaaV5
namespace Go.Proofs.Ytapaodagnpaekaa.Lib
open Go.RowKit Go.Proofs.YtapaodagnpaekaaW.PrintWords Go.Proofs.YtapaodagnpaekaaW.PrintLast Go.Proofs.YtapaodagnpaekaaW.PrintMore
set_option linter.unusedVariables false
set_option linter.unusedSimpArgs false
/-- a piece -/
structure PS where
  kind : ByteArray
  size : Int
  data : List Int
  bg : Bool
  en : Bool
def zs : PS := ⟨⟨#[]⟩, 0, [], false, false⟩
/-- the pieces with one that is open at the end -/
def nowM (kind : ByteArray) (size : Int) (ps : List PS) : List PS := if ps.length = 0 ∨ (ps.getD (ps.length - 1) zs).en = true then ps ++ [⟨kind, size, [], false, false⟩] else ps
/-- the last piece turned -/
def setL (f : PS → PS) (ps : List PS) : List PS := ps.set (ps.length - 1) (f (ps.getD (ps.length - 1) zs))
/-- one step of Push: does it go on; the reader; the bytes; the pieces -/
def stepM (r : RS) (b : List Int) (ps : List PS) : Bool × RS × List Int × List PS :=
  if r.st = 0 then
    (if r.held.length = 8 then (true, { r with held := [], st := 1 }, b, ps)
    else if b.length = 0 then (false, r, b, ps)
    else if b.getD 0 0 ≠ firstL.getD r.held.length 0 then (false, { r with e := 3 }, b, ps)
    else (true, { r with held := r.held ++ [b.getD 0 0] }, b.drop 1, ps))
  else if r.st = 3 then
    (if min r.left.toNat b.length = 0 then
      (if 0 < r.left then (false, r, b, ps) else (true, { r with st := 4 }, b, ps))
    else
      (if 0 < r.left - (min r.left.toNat b.length : Nat) then (false, { r with sum := moreN r.sum (b.take (min r.left.toNat b.length)), left := r.left - (min r.left.toNat b.length : Nat) }, b.drop (min r.left.toNat b.length), setL (fun p => { p with data := p.data ++ b.take (min r.left.toNat b.length) }) (nowM r.kind r.size ps))
      else (true, { r with sum := moreN r.sum (b.take (min r.left.toNat b.length)), left := r.left - (min r.left.toNat b.length : Nat), st := 4 }, b.drop (min r.left.toNat b.length), setL (fun p => { p with data := p.data ++ b.take (min r.left.toNat b.length) }) (nowM r.kind r.size ps))))
  else if r.held.length + min (4 - r.held.length) b.length ≠ 4 then (false, { r with held := r.held ++ b.take (min (4 - r.held.length) b.length) }, b.drop (min (4 - r.held.length) b.length), ps)
  else if r.st = 1 then
    (if 1048576 < beN (r.held ++ b.take (min (4 - r.held.length) b.length)) then (false, { r with held := r.held ++ b.take (min (4 - r.held.length) b.length), size := beN (r.held ++ b.take (min (4 - r.held.length) b.length)), e := 9 }, b.drop (min (4 - r.held.length) b.length), ps)
    else (true, { r with held := [], size := beN (r.held ++ b.take (min (4 - r.held.length) b.length)), st := 2 }, b.drop (min (4 - r.held.length) b.length), ps))
  else if r.st = 2 then
    (if (r.held ++ b.take (min (4 - r.held.length) b.length)).all letB = false then (false, { r with held := r.held ++ b.take (min (4 - r.held.length) b.length), e := 3 }, b.drop (min (4 - r.held.length) b.length), ps)
    else (true, { r with held := [], kind := strOfNums (r.held ++ b.take (min (4 - r.held.length) b.length)), left := r.size, sum := moreN 0 (r.held ++ b.take (min (4 - r.held.length) b.length)), st := 3 }, b.drop (min (4 - r.held.length) b.length), setL (fun p => { p with bg := true }) (nowM (strOfNums (r.held ++ b.take (min (4 - r.held.length) b.length))) r.size ps)))
  else
    (if beN (r.held ++ b.take (min (4 - r.held.length) b.length)) ≠ r.sum then (false, { r with held := r.held ++ b.take (min (4 - r.held.length) b.length), e := 4 }, b.drop (min (4 - r.held.length) b.length), ps)
    else (true, { r with held := [], st := 1 }, b.drop (min (4 - r.held.length) b.length), setL (fun p => { p with en := true }) (nowM r.kind r.size ps)))
/-- Push, with so many steps -/
def runM : Nat → RS → List Int → List PS → Option (RS × List PS)
  | 0, _, _, _ => none
  | k + 1, r, b, ps => if (stepM r b ps).1 = true then runM k (stepM r b ps).2.1 (stepM r b ps).2.2.1 (stepM r b ps).2.2.2 else some ((stepM r b ps).2.1, (stepM r b ps).2.2.2)
/-- what a reader holds may be -/
structure RsOk (r : RS) : Prop where
  st : 0 ≤ r.st ∧ r.st ≤ 4
  hb : Bytes r.held
  hl : r.held.length ≤ 8 ∧ (r.st ≠ 0 → r.held.length ≤ 4)
  sz : 0 ≤ r.size ∧ r.size ≤ 4294967295
  lf : 0 ≤ r.left ∧ r.left ≤ 4294967295
  sm : 0 ≤ r.sum ∧ r.sum < 4294967296
/-- the pieces' data in memory -/
structure Dat (W : World) (B : Nat) (hv : Value) (pcs : List Pc) (ps : List PS) : Prop where
  len : pcs.length = ps.length
  at_ : ∀ j, j < ps.length → (pcs.getD j zp).kind = (ps.getD j zs).kind ∧ (pcs.getD j zp).size = (ps.getD j zs).size ∧ (pcs.getD j zp).bg = (ps.getD j zs).bg ∧ (pcs.getD j zp).en = (ps.getD j zs).en ∧
    Kd.R (Kd.int .u8) 5 W B (fun k => some k ≠ hv.ownBlock) (.slice (pcs.getD j zp).A (pcs.getD j zp).n (pcs.getD j zp).c) (ps.getD j zs).data
/-- between two steps -/
structure PI (w W : World) (n₀ g : Nat) (hv0 hv ov : Value) (r : RS) (pcs : List Pc) (ps : List PS) : Prop where
  rd : IsRd W n₀ g hv r
  x2 : W.heap[w.heap.size]? = some (.cells #[.pointer (some ⟨g, 0, none⟩)] 24 (0, 0))
  x6 : W.heap[w.heap.size + 1]? = some (.cells #[ov] 28 (0, 0))
  out : Kd.R kp 53 W w.heap.size (fun _ => True) ov pcs
  dat : Dat W w.heap.size hv pcs ps
  kp : Kept w W (RdS g hv0)
  bl : Below n₀ w W
  hvb : hv.ownBlock = none ∨ hv.ownBlock = hv0.ownBlock ∨ ∃ b, hv.ownBlock = some b ∧ w.heap.size ≤ b
  n0 : n₀ ≤ w.heap.size
  ok : RsOk r
theorem Dat.move {W W1 : World} {B : Nat} {hv hv' : Value} {pcs : List Pc} {ps : List PS} (h : Dat W B hv pcs ps) (hm : ∀ k, some k ≠ hv.ownBlock → k < W.heap.size → (∃ cells, W.heap[k]? = some (.cells cells 5 (0, 0))) → W1.heap[k]? = W.heap[k]? ∧ some k ≠ hv'.ownBlock) : Dat W1 B hv' pcs ps := by
  refine ⟨h.len, fun j hj => ?_⟩
  obtain ⟨h1, h2, h3, h4, h5⟩ := h.at_ j hj
  refine ⟨h1, h2, h3, h4, ?_⟩
  have h6 := Kd.R_bound h5
  have hk : ∀ k, (some k ≠ hv.ownBlock ∧ B ≤ k ∧ k < W.heap.size ∧ ∃ q, q ∈ 5 :: (Kd.int .u8).E ∧ ∃ cells, W.heap[k]? = some (.cells cells q (0, 0))) → W1.heap[k]? = W.heap[k]? ∧ some k ≠ hv'.ownBlock := by
    rintro k ⟨a, _, b, q, hq, c⟩
    have hq5 : q = 5 := by simpa [Kd.int, Kd.scalar] using hq
    subst hq5
    exact hm k a b c
  exact Kd.R_mono (Kd.R_step h6 (fun k ho _ => (hk k ho).1)) (fun k ho => (hk k ho).2)
theorem Dat.ext {W W1 : World} {B : Nat} {hv : Value} {pcs : List Pc} {ps : List PS} (h : Dat W B hv pcs ps) (hb : Below W.heap.size W W1) : Dat W1 B hv pcs ps := h.move (fun k a b _ => ⟨hb.block k b, a⟩)
section
variable {w W W1 : World} {n₀ g : Nat} {hv0 hv hv' ov : Value} {r r' : RS} {pcs : List Pc} {ps : List PS}
theorem PI.ext (h : PI w W n₀ g hv0 hv ov r pcs ps) (hb : Below W.heap.size W W1) : PI w W1 n₀ g hv0 hv ov r pcs ps :=
  ⟨h.rd.ext hb, blk_below h.x2 hb, blk_below h.x6 hb, Kd.R_below h.out hb, h.dat.ext hb, h.kp.then_ (Kept.of_below hb (fun _ => False)) (fun k hk => hk.elim), below_then h.bl (Nat.le_trans h.n0 h.kp.1) hb, h.hvb, h.n0, h.ok⟩
/-- a field of the reader is written -/
theorem PI.setg (h : PI w W n₀ g hv0 hv ov r pcs ps) (i : Nat) (v : Value)
    (hb : (#[.int .i64 r.st, hv, .string r.kind, .int .i64 r.size, .int .i64 r.left, .int .u32 r.sum, .int .i64 r.e] : Array Value).setIfInBounds i v = #[.int .i64 r'.st, hv', .string r'.kind, .int .i64 r'.size, .int .i64 r'.left, .int .u32 r'.sum, .int .i64 r'.e])
    (hrow : Kd.R (Kd.int .u8) 5 W n₀ (fun _ => True) hv' r'.held) (hown : hv'.ownBlock = none ∨ hv'.ownBlock = hv.ownBlock) (hok : RsOk r') : PI w (W.setCell ⟨g, i, none⟩ v) n₀ g hv0 hv' ov r' pcs ps := by
  have hne : ∀ {b q : Nat} {cs : Array Value}, W.heap[b]? = some (.cells cs q (0, 0)) → q ≠ 59 → b ≠ g := fun h1 h2 => blk_ne h1 h.rd.blk h2
  refine ⟨⟨?_, Kd.R_set hrow h.rd.blk (by decide) i v, h.rd.ge⟩, blk_far h.x2 (p := ⟨g, i, none⟩) (hne h.x2 (by decide)) v, blk_far h.x6 (p := ⟨g, i, none⟩) (hne h.x6 (by decide)) v, Kd.R_set h.out h.rd.blk (by decide) i v, h.dat.move (fun k a b c => ?_), h.kp.setCell (p := ⟨g, i, none⟩) (.inl (.inl rfl)) v, h.bl.setCell (p := ⟨g, i, none⟩) h.rd.ge v, ?_, h.n0, hok⟩
  · have h1 := blk_set h.rd.blk i v
    rw [hb] at h1
    exact h1
  · obtain ⟨cs, hc⟩ := c
    refine ⟨Below.heap_setCell W ⟨g, i, none⟩ v k (hne hc (by decide)), ?_⟩
    rcases hown with e | e
    · rw [e]; simp
    · rw [e]; exact a
  · rcases hown with e | e
    · exact .inl e
    · rw [e]; exact h.hvb
/-- hold -/
theorem PI.hold (h : PI w W n₀ g hv0 hv ov r pcs ps) {held' : List Int} (hI : IsRd W1 n₀ g hv' { r with held := held' }) (hk : Kept W W1 (RdS g hv)) (hb : Below n₀ W W1) (ho : hv'.ownBlock = hv.ownBlock ∨ ∃ b, hv'.ownBlock = some b ∧ W.heap.size ≤ b) (hbs : Bytes held') (hl : held'.length ≤ 8 ∧ (r.st ≠ 0 → held'.length ≤ 4)) :
    PI w W1 n₀ g hv0 hv' ov { r with held := held' } pcs ps := by
  have hS : ∀ {b q : Nat} {cs : Array Value}, W.heap[b]? = some (.cells cs q (0, 0)) → q ≠ 59 → q ≠ 5 → ¬ RdS g hv b := by
    intro b q cs h1 h2 h3
    rintro (rfl | e)
    · rw [h.rd.blk] at h1
      injection h1 with h1
      injection h1 with _ h4
      exact h2 h4.symm
    · obtain ⟨cs2, h5⟩ := Kd.R_typed h.rd.row b e
      rw [h5] at h1
      injection h1 with h1
      injection h1 with _ h4
      exact h3 h4.symm
  refine ⟨hI, blk_kept h.x2 hk (hS h.x2 (by decide) (by decide)), blk_kept h.x6 hk (hS h.x6 (by decide) (by decide)), R_keptT h.out hk ?_, h.dat.move (fun k a b c => ?_), h.kp.then_ hk ?_, h.bl.trans hb, ?_, h.n0, ⟨h.ok.st, hbs, hl, h.ok.sz, h.ok.lf, h.ok.sm⟩⟩
  · rintro k (rfl | e)
    · exact ⟨_, _, h.rd.blk, by decide⟩
    · obtain ⟨cs2, h5⟩ := Kd.R_typed h.rd.row k e
      exact ⟨_, _, h5, by decide⟩
  · obtain ⟨cs, hc⟩ := c
    refine ⟨hk.2 k b ?_, ?_⟩
    · rintro (rfl | e)
      · exact blk_ne hc h.rd.blk (by decide) rfl
      · exact a e.symm
    · rcases ho with e | ⟨b2, e, hb2⟩
      · rw [e]; exact a
      · rw [e]
        intro e2
        injection e2 with e2
        omega
  · rintro k (rfl | e)
    · exact .inl (.inl rfl)
    · rcases h.hvb with e2 | e2 | ⟨b, e2, hb2⟩
      · rw [e2] at e; cases e
      · exact .inl (.inr (by rw [← e2]; exact e))
      · rw [e2] at e
        injection e with e
        exact .inr (by omega)
  · rcases ho with e | ⟨b2, e, hb2⟩
    · rw [e]; exact h.hvb
    · exact .inr (.inr ⟨b2, e, Nat.le_trans h.kp.1 hb2⟩)
end
end Go.Proofs.Ytapaodagnpaekaa.Lib
