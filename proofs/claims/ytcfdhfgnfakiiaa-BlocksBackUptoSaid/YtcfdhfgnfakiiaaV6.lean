/- BlocksReads' world: the reader, all bytes, what was told: three rows that lie apart. -/
import Derived.Test.YtcfdhfgnfakiiaaA1
namespace Go.Proofs.Ytcfdhfgnfakiiaa.Lib
open Go.RowKit Go.Proofs.YtcfdhfgnfakiiaaW.PrintWords Go.Proofs.YtcfdhfgnfakiiaaW.PrintLast Go.Proofs.YtcfdhfgnfakiiaaW.PrintMore
abbrev R8 (w : World) (b : Nat) (v : Value) (l : List Int) : Prop := Kd.R (Kd.int .u8) 5 w b (fun _ => True) v l
structure RdSt (w wr : World) (g : Nat) (va vt vr : Value) (al tl rs : List Int) (lf sn : Int) (dn : Bool) : Prop where
  rd : IsRd wr w.heap.size g lf sn dn vr rs
  ra : R8 wr w.heap.size va al
  rt : R8 wr w.heap.size vt tl
  n1 : NeRow va vt
  n2 : NeRow va vr
  n3 : NeRow vt vr
  bl : Below w.heap.size w wr
theorem R8.keepB {w w1 : World} {b g : Nat} {row : Option Nat} {v : Value} {l : List Int} (h : R8 w b v l) (hk : KeepBut w w1 g row) (hg : some g ≠ v.ownBlock) (hr : ∀ k, row = some k → v.ownBlock ≠ some k) : R8 w1 b v l := by
  refine Kd.R_mono (Kd.R_step (Kd.R_tight2 rfl h) (fun k hk1 hlt => hk.2 k hlt (fun e => hg (by rw [← e]; exact hk1.1)) (fun e => hr k e.symm hk1.1.symm))) (fun _ _ => trivial)
theorem R8.own {w : World} {b : Nat} {v : Value} {l : List Int} (h : R8 w b v l) : ∃ inner, w.ownsRow b 5 1 v l.length inner := Kd.R_own h
/-- a row that was there, one that is new since -/
theorem ne_old {W w1 : World} {b : Nat} {u v : Value} {l m : List Int} {ok : Nat → Prop} (hu : R8 W b u l) (hv : Kd.R (Kd.int .u8) 5 w1 W.heap.size ok v m) : NeRow u v := fun k hk e => by
  have h1 := Kd.R_lt hu k hk
  have h2 := Kd.R_base hv k e
  omega
theorem rd_ne {w : World} {n g : Nat} {lf sn : Int} {dn : Bool} {vr v : Value} {rs l : List Int} {b : Nat} {ok : Nat → Prop} (h : IsRd w n g lf sn dn vr rs) (hv : Kd.R (Kd.int .u8) 5 w b ok v l) : some g ≠ v.ownBlock := Kd.R_ne hv h.1 (by decide)
namespace RdSt
variable {w wr w1 : World} {g : Nat} {va vt vr v1 : Value} {al tl rs : List Int} {lf sn : Int} {dn : Bool}
theorem ext (h : RdSt w wr g va vt vr al tl rs lf sn dn) (hb : Below wr.heap.size wr w1) : RdSt w w1 g va vt vr al tl rs lf sn dn :=
  ⟨⟨blk_below h.rd.1 hb, h.rd.2.1, Kd.R_below h.rd.2.2 hb⟩, Kd.R_below h.ra hb, Kd.R_below h.rt hb, h.n1, h.n2, h.n3, h.bl.trans (hb.mono h.bl.size)⟩
theorem keep {b : Nat} (h : RdSt w wr g va vt vr al tl rs lf sn dn) (hk : KeepBut wr w1 b none) (hbl : Below w.heap.size wr w1) (hg : b ≠ g) (h1 : some b ≠ va.ownBlock) (h2 : some b ≠ vt.ownBlock) (h3 : some b ≠ vr.ownBlock) : RdSt w w1 g va vt vr al tl rs lf sn dn :=
  ⟨⟨KeepBut.blk hk h.rd.1 (fun e => hg e.symm) (by simp), h.rd.2.1, R8.keepB h.rd.2.2 hk h3 (by simp)⟩, R8.keepB h.ra hk h1 (by simp), R8.keepB h.rt hk h2 (by simp), h.n1, h.n2, h.n3, h.bl.trans hbl⟩
theorem app_all {p : List Int} (h : RdSt w wr g va vt vr al tl rs lf sn dn) (ho : R8 w1 w.heap.size v1 (al ++ p)) (hb : Below w.heap.size w w1) (hg : wr.grownBy w1 va.ownBlock) (hat : v1.ownBlock = va.ownBlock ∨ ∃ b, v1.ownBlock = some b ∧ wr.heap.size ≤ b) : RdSt w w1 g v1 vt vr (al ++ p) tl rs lf sn dn := by
  obtain ⟨it, hit⟩ := R8.own h.rt
  obtain ⟨ir, hir⟩ := R8.own h.rd.2.2
  exact ⟨⟨blk_grown h.rd.1 hg (rd_ne h.rd h.ra), h.rd.2.1, Kd.R_grown2 h.rd.2.2 rfl hg (fun k e e2 => h.n2 k e e2.symm)⟩, ho, Kd.R_grown2 h.rt rfl hg (fun k e e2 => h.n1 k e e2.symm), ne_append h.n1 hat hit, ne_append h.n2 hat hir, h.n3, hb⟩
theorem app_told {p : List Int} (h : RdSt w wr g va vt vr al tl rs lf sn dn) (ho : R8 w1 w.heap.size v1 (tl ++ p)) (hb : Below w.heap.size w w1) (hg : wr.grownBy w1 vt.ownBlock) (hat : v1.ownBlock = vt.ownBlock ∨ ∃ b, v1.ownBlock = some b ∧ wr.heap.size ≤ b) : RdSt w w1 g va v1 vr al (tl ++ p) rs lf sn dn := by
  obtain ⟨ia, hia⟩ := R8.own h.ra
  obtain ⟨ir, hir⟩ := R8.own h.rd.2.2
  exact ⟨⟨blk_grown h.rd.1 hg (rd_ne h.rd h.rt), h.rd.2.1, Kd.R_grown2 h.rd.2.2 rfl hg (fun k e e2 => h.n3 k e e2.symm)⟩, Kd.R_grown2 h.ra rfl hg (fun k e e2 => h.n1 k e2.symm e), ho, ne_append' h.n1 hat hia, h.n2, ne_append h.n3 hat hir, hb⟩
theorem push {p : List Int} {vr' : Value} (h : RdSt w wr g va vt vr al tl rs lf sn dn) (hI : IsRd w1 w.heap.size g (pushL lf sn dn p).2.1 (pushL lf sn dn p).2.2.1 (pushL lf sn dn p).2.2.2.1 vr' (rs ++ (pushL lf sn dn p).2.2.2.2)) (hk : KeepBut wr w1 g vr.ownBlock) (hb : Below w.heap.size wr w1) (hat : vr'.ownBlock = vr.ownBlock ∨ ∃ b, vr'.ownBlock = some b ∧ wr.heap.size ≤ b) :
    RdSt w w1 g va vt vr' al tl (rs ++ (pushL lf sn dn p).2.2.2.2) (pushL lf sn dn p).2.1 (pushL lf sn dn p).2.2.1 (pushL lf sn dn p).2.2.2.1 := by
  obtain ⟨ia, hia⟩ := R8.own h.ra
  obtain ⟨it, hit⟩ := R8.own h.rt
  exact ⟨hI, R8.keepB h.ra hk (rd_ne h.rd h.ra) (fun k e e2 => h.n2 k e2 e), R8.keepB h.rt hk (rd_ne h.rd h.rt) (fun k e e2 => h.n3 k e2 e), h.n1, ne_append' h.n2 hat hia, ne_append' h.n3 hat hit, h.bl.trans hb⟩
end RdSt
end Go.Proofs.Ytcfdhfgnfakiiaa.Lib
