/- ReceiverPlays: the law's rows and both receivers, event by event. -/
import Derived.Test.YthkiedkifhloeaaR5
namespace Go.Proofs.Ythkiedkifhloeaa.Lib
open Go.RowKit Go.Proofs.YthkiedkifhloeaaW.PrintWords Go.Proofs.YthkiedkifhloeaaW.PrintLast Go.Proofs.YthkiedkifhloeaaW.PrintMore
set_option linter.unusedVariables false
set_option linter.unusedSimpArgs false
/-- both receivers -/
structure PI (w W : World) (ok : Nat → Prop) (g mb h n : Nat) (vD vC : Value) (ww : Int) (nx : Nat) (L : List (Int × List Int)) (hs : List Hd) (bs : List Bool) (cb : List (List Int)) : Prop where
  rv : Rv W w.heap.size ok g mb (n : Int) ww (nx : Int) L
  rf : Rf W w.heap.size ok h n vD vC ww hs bs cb
  po : PO n ww (nx : Int) L bs cb
  bl : Below w.heap.size w W
section
variable {w W W1 : World} {ok ok' : Nat → Prop} {g mb h n : Nat} {vD vC v : Value} {ww : Int} {nx : Nat} {L : List (Int × List Int)} {hs : List Hd} {bs : List Bool} {cb : List (List Int)}
theorem PI.below (hp : PI w W ok g mb h n vD vC ww nx L hs bs cb) (hb : Below W.heap.size W W1) : PI w W1 ok g mb h n vD vC ww nx L hs bs cb :=
  ⟨hp.rv.below hb, hp.rf.below hb, hp.po, below_then hp.bl hp.bl.size hb⟩
/-- a row made since -/
theorem PI.fresh (hp : PI w W tru g mb h n vD vC ww nx L hs bs cb) (hb : Below W.heap.size W W1) (hv : ∀ k, v.ownBlock = some k → W.heap.size ≤ k) : PI w W1 (NotOf v) g mb h n vD vC ww nx L hs bs cb := by
  have hno : ∀ k, k < W.heap.size → NotOf v k := fun k hk e => by have := hv k e.symm; omega
  exact ⟨hp.rv.st (hb.block _ hp.rv.lt.1) (hb.block _ hp.rv.lt.2) (fun k _ _ c _ => ⟨hb.block k c, hno k c⟩),
    hp.rf.st (fun k t _ hc => by obtain ⟨cells, hc⟩ := hc; exact hb.block k (blk_lt hc)) (fun k _ _ c _ => ⟨hb.block k c, hno k c⟩), hp.po, below_then hp.bl hp.bl.size hb⟩
/-- that row is written -/
theorem Rv.over (hr : Rv W w.heap.size (NotOf v) g mb (n : Int) ww (nx : Int) L) (hk : Kept W W1 (fun k => some k = v.ownBlock)) (hv : ∀ k, v.ownBlock = some k → ∃ cells, W.heap[k]? = some (Obj.cells cells 5 (0, 0))) : Rv W1 w.heap.size tru g mb (n : Int) ww (nx : Int) L := by
  obtain ⟨F, hF, _, _⟩ := hr.rv
  refine hr.st (hk.2 g hr.lt.1 (fun e => ?_)) (hk.2 mb hr.lt.2 (fun e => ?_)) (fun k a _ c _ => ⟨hk.2 k c a, trivial⟩)
  · exact ty_ne ⟨_, hF.blk⟩ (hv g e.symm) (by decide) rfl
  · obtain ⟨es, cl, hm, _⟩ := hF.mp
    exact ty_map hm (hv mb e.symm) rfl
theorem PI.over (hp : PI w W (NotOf v) g mb h n vD vC ww nx L hs bs cb) (hk : Kept W W1 (fun k => some k = v.ownBlock)) (hv : ∀ k, v.ownBlock = some k → ∃ cells, W.heap[k]? = some (Obj.cells cells 5 (0, 0))) (hb : Below w.heap.size W W1) : PI w W1 tru g mb h n vD vC ww nx L hs bs cb :=
  ⟨hp.rv.over hk hv, hp.rf.st (fun k t ht hc => by
    have hc2 := hc
    obtain ⟨cells, hc⟩ := hc
    refine hk.2 k (blk_lt hc) (fun e => ?_)
    refine ty_ne hc2 (hv k e.symm) ?_ rfl
    rcases ht with rfl | rfl | rfl <;> decide) (fun k a _ c _ => ⟨hk.2 k c a, trivial⟩), hp.po, hp.bl.trans hb⟩
theorem Told.over {u : Value} {T : List (List Int)} (ht : Told W w.heap.size (NotOf v) u T) (hk : Kept W W1 (fun k => some k = v.ownBlock)) (hv : ∀ k, v.ownBlock = some k → ∃ cells, W.heap[k]? = some (Obj.cells cells 5 (0, 0))) : Told W1 w.heap.size tru u T :=
  ht.st (fun k _ c hc => hk.2 k c (fun e => ty_ne hc (hv k e.symm) (by decide) rfl)) (fun k a _ c _ => ⟨hk.2 k c a, trivial⟩)
/-- the program's Take -/
def T1 (w W W' : World) (v : Value) (g mb h n : Nat) (vD vC : Value) (ww : Int) (nx : Nat) (L : List (Int × List Int)) (hs : List Hd) (bs : List Bool) (cb : List (List Int)) (i : Int) (d : List Int) (u : Value) (No : Nat) (bb : Bool) (nx' : Int) (L' : List (Int × List Int)) (T : List (List Int)) : Prop :=
  Rv W' w.heap.size (NotOf v) g mb (n : Int) ww nx' L' ∧ Rf W' w.heap.size (NotOf v) h n vD vC ww hs bs cb ∧ Told W' w.heap.size (NotOf v) u T ∧ T.length = No ∧ Dec n ww (nx : Int) L i d bb nx' L' T ∧ PO n ww (nx : Int) L bs cb ∧
    (∀ k, u.ownBlock = some k → some k ≠ vD.ownBlock ∧ some k ≠ vC.ownBlock) ∧ Kd.R (Kd.int .u8) 5 W' w.heap.size (fun _ => True) v d ∧ Below w.heap.size w W'
theorem pi_take1 (hp : PI w W (NotOf v) g mb h n vD vC ww nx L hs bs cb) {A : Option Addr} {m c : Nat} {d : List Int} (hv : v = .slice A m c) (hm : d.length = m) (hR : Kd.R (Kd.int .u8) 5 W w.heap.size (fun _ => True) v d) (i : Int) (hi : (Lit.int .i64 i).wf = true) (hl : m ≤ 1000000) :
    Calls Try.prog 10 #[.pointer (some ⟨g, 0, none⟩), .int .i64 i, .slice A m c] W fun e W' => ∃ Ao No co bb nx' L' T, e = .returned (.tuple #[.slice Ao No co, .bool bb]) ∧ T1 w W W' v g mb h n vD vC ww nx L hs bs cb i d (.slice Ao No co) No bb nx' L' T ∧ (∀ k : Nat, (∃ cells, W.heap[k]? = some (Obj.cells cells 38 (0, 0))) → W'.heap[k]? = W.heap[k]?) := by
  have hR2 := hR
  rw [hv] at hR2
  obtain ⟨_, hmc, hC⟩ := Kd.R_reads' hR2
  rw [hm] at hC
  refine (r_take hp.rv (fun k hk e => by have := Kd.R_lt hR k e.symm; omega) i hi A m c d hm hC hl).mono ?_
  rintro e W' ⟨Ao, No, co, bb, nx', L', T, rfl, hV, hT, hN, hD, hfr, hty, hb⟩
  refine ⟨Ao, No, co, bb, nx', L', T, rfl, ⟨hV, hp.rf.st (fun k t ht hc => hty k t (by rcases ht with rfl | rfl | rfl <;> decide) hc) (fun k a _ _ hc => ⟨hty k 5 (by decide) hc, a⟩), hT, hN, hD, hp.po, (fun k hk => ⟨fun e => ?_, fun e => ?_⟩), R_stT rfl hR (fun k _ _ hc => hty k 5 (by decide) hc), hp.bl.trans hb⟩, fun k hc => hty k 38 (by decide) hc⟩
  · have := Kd.R_lt hp.rf.rf.dat k e.symm
    have := hfr k hk
    omega
  · have := Kd.R_lt hp.rf.rf.come k e.symm
    have := hfr k hk
    omega
/-- the document's Take behind it -/
def T2 (w W' : World) (v : Value) (g mb h n : Nat) (vD vC : Value) (ww : Int) (p2 : Nat) (L' : List (Int × List Int)) (hs' : List Hd) (bs' : List Bool) (cb' : List (List Int)) (d : List Int) (u uq : Value) (No Nq : Nat) (T : List (List Int)) : Prop :=
  PI w W' (NotOf v) g mb h n vD vC ww p2 L' hs' bs' cb' ∧ Told W' w.heap.size (NotOf v) u T ∧ Told W' w.heap.size (NotOf v) uq T ∧ T.length = No ∧ T.length = Nq ∧ Kd.R (Kd.int .u8) 5 W' w.heap.size (fun _ => True) v d
theorem pi_take2 {W0 : World} {i : Int} {d : List Int} {u : Value} {No : Nat} {bb : Bool} {nx' : Int} {L' : List (Int × List Int)} {T : List (List Int)} (h1 : T1 w W0 W v g mb h n vD vC ww nx L hs bs cb i d u No bb nx' L' T) {A : Option Addr} {m c : Nat} (hm : d.length = m) (hC : Kd.C (Kd.int .u8) w A m d) (hl : m ≤ 1000000) :
    Calls Try.prog 13 #[.pointer (some ⟨h, 0, none⟩), .int .i64 i, .slice A m c] W fun e W' => ∃ Aq Nq cq hs' bs' cb' p2, e = .returned (.tuple #[.slice Aq Nq cq, .bool bb]) ∧ T2 w W' v g mb h n vD vC ww p2 L' hs' bs' cb' d u (.slice Aq Nq cq) No Nq T := by
  obtain ⟨hV, hF, hT, hN, hD, hP, hu, hR, hB⟩ := h1
  refine (x_take hB hF hP (fun k hk e => by have := Kd.R_lt hR k e.symm; omega) i A m c d hm hC hl hD).mono ?_
  rintro e W' ⟨Aq, Nq, cq, hs', bs', cb', p2, rfl, rfl, hF2, hT2, hN2, hP2, hK, hB2⟩
  have hno : ∀ k t, t ≠ 22 → t ≠ 4 → (∃ cells, W.heap[k]? = some (Obj.cells cells t (0, 0))) → W'.heap[k]? = W.heap[k]? := fun k t q1 q2 hc => by
    have hc2 := hc
    obtain ⟨cells, hc⟩ := hc
    refine hK.2 k (blk_lt hc) ?_
    rintro (e | e)
    · exact ty_ne hc2 (Kd.R_typed hF.rf.dat k e.symm) q1 rfl
    · exact ty_ne hc2 (Kd.R_typed hF.rf.come k e.symm) q2 rfl
  obtain ⟨F, hF1, _, _⟩ := hV.rv
  refine ⟨Aq, Nq, cq, hs', bs', cb', p2, rfl, ⟨hV.st (hno g 51 (by decide) (by decide) ⟨_, hF1.blk⟩) ?_ (fun k a _ _ hc => ⟨hno k 5 (by decide) (by decide) hc, a⟩), hF2, hP2, hB.trans hB2⟩, ?_, hT2, hN, hN2, R_stT rfl hR (fun k _ _ hc => hno k 5 (by decide) (by decide) hc)⟩
  · obtain ⟨es, cl, hmp, _⟩ := hF1.mp
    refine hK.2 mb (blk_lt hmp) ?_
    rintro (e | e)
    · exact ty_map hmp (Kd.R_typed hF.rf.dat mb e.symm) rfl
    · exact ty_map hmp (Kd.R_typed hF.rf.come mb e.symm) rfl
  · obtain ⟨hs0, r1, r2⟩ := hT.out
    refine ⟨hs0, R_stT rfl r1 (fun k e q hc => hK.2 k q ?_), r2.mono (fun x l hx => hx.st (fun k a _ _ hc => ⟨hno k 5 (by decide) (by decide) hc, a⟩))⟩
    rintro (e2 | e2)
    · exact (hu k e).1 e2
    · exact (hu k e).2 e2
theorem pi_nextR (hp : PI w W ok g mb h n vD vC ww nx L hs bs cb) : Calls Try.prog 15 #[.pointer (some ⟨g, 0, none⟩)] W fun e W' => e = .returned (.int .i64 nx) ∧ W' = W := rv_next hp.rv
theorem pi_nextX (hp : PI w W ok g mb h n vD vC ww nx L hs bs cb) : Calls Try.prog 16 #[.pointer (some ⟨h, 0, none⟩)] W fun e W' => e = .returned (.int .i64 nx) ∧ W' = W := rf_next hp.rf.rf hp.po.nextIs (by have := hp.po.b.n2; omega)
theorem pi_heldX (hp : PI w W ok g mb h n vD vC ww nx L hs bs cb) : Calls Try.prog 18 #[.pointer (some ⟨h, 0, none⟩)] W fun e W' => e = .returned (.int .i64 L.length) ∧ W' = W := by
  refine (rf_held hp.rf.rf hp.po.nextIs (by have := hp.po.b.n2; omega)).mono ?_
  rintro e W' ⟨rfl, rfl⟩
  rw [hp.po.keys, List.length_map]
  exact ⟨rfl, rfl⟩
theorem rgL_len (ks : List Int) : (rgL ks []).length ≤ 4 := by
  rw [← rgF_take ks [] (by simp), List.length_take]
  omega
theorem pi_rangesX (hp : PI w W ok g mb h n vD vC ww nx L hs bs cb) : Calls Try.prog 21 #[.pointer (some ⟨h, 0, none⟩)] W fun e W' => ∃ A N c, e = .returned (.slice A N c) ∧ (rgL (L.map Prod.fst) []).length = N ∧ Kd.R kr 48 W' W.heap.size (fun _ => True) (.slice A N c) (rgL (L.map Prod.fst) []) ∧ Below W.heap.size W W' := by
  refine (rf_ranges hp.rf.rf hp.po.nextIs (by have := hp.po.b.n2; omega)).mono ?_
  rintro e W' ⟨A, N, c, rfl, h1, h2, h3⟩
  rw [hp.po.keys, rgF_take _ _ (by simp)] at h1 h2
  exact ⟨A, N, c, rfl, h1, h2, h3⟩
end
theorem Dec.bytes {n : Nat} {ww nx : Int} {L : List (Int × List Int)} {i : Int} {d : List Int} {bb : Bool} {nx' : Int} {L' : List (Int × List Int)} {T : List (List Int)} (hD : Dec n ww nx L i d bb nx' L' T) (hL : ∀ x ∈ L, Bytes x.2) (hd : Bytes d) : (∀ l ∈ T, Bytes l) ∧ ∀ x ∈ L', Bytes x.2 := by
  rcases hD with ⟨rfl, rfl, rfl, rfl, hno⟩ | ⟨rfl, a, rfl, h1, h2, h3, h4, h5⟩
  · exact ⟨fun l hl => absurd hl List.not_mem_nil, hL⟩
  · have h := told_bytes (n := nx) (w := nx) (nx := nx) (L := L) (insF (a : Int) d L) nx (fun x hx => by
      rcases (insF_mem _ _ L x).1 hx with rfl | hx
      · exact hd
      · exact hL x hx)
    rw [h5] at h
    exact h
theorem Dec.len {n : Nat} {ww nx : Int} {L : List (Int × List Int)} {i : Int} {d : List Int} {bb : Bool} {nx' : Int} {L' : List (Int × List Int)} {T : List (List Int)} (hD : Dec n ww nx L i d bb nx' L' T) {bs : List Bool} {cb : List (List Int)} (hP : PO n ww nx L bs cb) : T.length ≤ n := by
  rcases hD with ⟨rfl, rfl, rfl, rfl, hno⟩ | ⟨rfl, a, rfl, h1, h2, h3, h4, h5⟩
  · simp
  · obtain ⟨_, hp2, hlen, _⟩ := hP.take ⟨h1, by omega, h3⟩ h4 d
    rw [h5] at hp2 hlen
    simp only at hp2 hlen
    have := hp2.b.n1
    have := hP.b.n0
    omega
theorem IsRf.lower {W : World} {B B' h : Nat} {vD vC : Value} {n : Nat} {ww : Int} {hs : List Hd} {bs : List Bool} (hf : IsRf W B h vD vC n ww hs bs) (hb : B' ≤ B) : IsRf W B' h vD vC n ww hs bs :=
  ⟨hf.blk, Nat.le_trans hb hf.ge, Kd.R_lower hf.dat hb, Kd.R_lower hf.come hb, hf.lh, hf.lb⟩
theorem PI.new {w w1 w2 w3 : World} {g mb h n : Nat} {vD vC : Value} {ww : Int} (hn : n ≤ 1048577) (hw : 1 ≤ ww ∧ ww ≤ 64) (hb1 : Below w.heap.size w w1) (hV : Rv w2 w1.heap.size tru g mb (n : Int) ww 0 []) (hb2 : Below w1.heap.size w1 w2) (hF : IsRf w3 w2.heap.size h vD vC n ww (List.replicate n zh) (List.replicate n false)) (hb3 : Below w2.heap.size w2 w3) :
    PI w w3 tru g mb h n vD vC ww 0 [] (List.replicate n zh) (List.replicate n false) (List.replicate n []) := by
  have hB2 := below_then hb1 hb1.size hb2
  refine ⟨Rv.below (W := w2) ⟨hV.rv.imp (fun F h => ⟨h.1, h.2.1.mono (fun a b hab => Kd.R_lower hab hb1.size), h.2.2⟩), Nat.le_trans hb1.size hV.ge.1, Nat.le_trans hb1.size hV.ge.2⟩ hb3, ⟨hF.lower hB2.size, fun j hj h => ?_⟩, PO.new n ww hn hw, below_then hB2 hB2.size hb3⟩
  rw [List.getD_eq_getElem?_getD, List.getElem?_replicate, if_pos hj] at h
  cases h
end Go.Proofs.Ythkiedkifhloeaa.Lib
