/- SenderBounds: walked by hand. -/
import Derived.Test.YtfmggodmhklfoaaP1
namespace Go.Proofs.Ytfmggodmhklfoaa.Lib
open Go.RowKit Go.Shelf Go.Proofs.YtfmggodmhklfoaaW.PrintWords Go.Proofs.YtfmggodmhklfoaaW.PrintLast Go.Proofs.YtfmggodmhklfoaaW.PrintMore
set_option linter.unusedVariables false
set_option linter.unusedSimpArgs false
/-- a sender, from the world where the law began -/
structure St (w0 wr : World) (g : Nat) (c : Cfg) (bs nw : Int) (vs : Value) (its : List S54) : Prop where
  sd : IsSd wr w0.heap.size g c bs nw vs its
  bl : Below w0.heap.size w0 wr
  ok : Good c bs nw its
  cf : CfgOk c.n c.wd c.fs c.ms
theorem St.ext {w0 wr w1 : World} {g : Nat} {c : Cfg} {bs nw : Int} {vs : Value} {its : List S54} (h : St w0 wr g c bs nw vs its) (hb : Below wr.heap.size wr w1) : St w0 w1 g c bs nw vs its :=
  ⟨h.sd.ext hb, below_then h.bl h.bl.size hb, h.ok, h.cf⟩
theorem St.drewN {w0 wr : World} {g : Nat} {c : Cfg} {bs nw : Int} {vs : Value} {its : List S54} (h : St w0 wr g c bs nw vs its) (m : Nat) : St w0 (wr.drewN m) g c bs nw vs its := h.ext (pw_below_drewN (Below.refl _ _) m)
theorem St.alloc {w0 wr : World} {g : Nat} {c : Cfg} {bs nw : Int} {vs : Value} {its : List S54} (h : St w0 wr g c bs nw vs its) (o : Obj) : St w0 (wr.alloc o) g c bs nw vs its := h.ext ((Below.refl _ _).alloc (Nat.le_refl _) o)
theorem St.tick {w0 w : World} {g : Nat} {c : Cfg} {bs nw : Int} {vs : Value} {its : List S54} (h : St w0 w g c bs nw vs its) (hn : nw ≤ 1000000) {P : List S54 × List Int} (hP : tickL c bs nw its = P) {L : Nat} (hL : P.2.length = L) :
    Calls Try.prog 15 #[.pointer (some ⟨g, 0, none⟩)] w fun e W' => ∃ A cp v1, e = .returned (.slice A L cp) ∧ L ≤ cp ∧ St w0 W' g c bs (nw + 1) v1 P.1 ∧ Kd.R (Kd.int .i64) 3 W' w.heap.size (fun _ => True) (.slice A L cp) P.2 ∧ Left w W' w0.heap.size g vs v1 := by
  obtain ⟨h1, h2, h3, h4, h5, h6, h7⟩ := h.cf
  have hb := h.ok.b0
  have hf := h.ok.fit
  have hw := h.ok.win
  refine (tick_st h.sd h.bl h.cf ⟨hb, by omega⟩ ⟨h.ok.n0, hn⟩ (by omega) (fun j => by have := h.ok.gap j; omega) hP hL).mono ?_
  rintro e W' ⟨A, cp, v1, rfl, hcp, hI, ho, hL', hB⟩
  exact ⟨A, cp, v1, rfl, hcp, ⟨hI, hB, hP ▸ h.ok.tick h.cf, h.cf⟩, ho, hL'⟩
theorem St.ack {w0 w : World} {g : Nat} {c : Cfg} {bs nw : Int} {vs : Value} {its : List S54} (h : St w0 w g c bs nw vs its) (next : Int) {A0 : Option Addr} {c0 : Nat} {rs : List (Int × Int)} (hr : Kd.C k52 w0 A0 rs.length rs) (hok : ∀ r ∈ rs, -9223372036854775808 ≤ r.1 ∧ r.1 ≤ 9223372036854775807) {m : Nat} (hm : rs.length = m) {Q : Int × List S54} (hQ : ackL bs nw its next rs = Q) :
    Calls Try.prog 12 #[.pointer (some ⟨g, 0, none⟩), .int .i64 next, .slice A0 m c0] w fun e W' => ∃ v1, e = .returned (.tuple #[]) ∧ St w0 W' g c Q.1 nw v1 Q.2 ∧ Left w W' w0.heap.size g vs v1 := by
  subst hm hQ
  obtain ⟨h1, h2, h3, h4, h5, h6, h7⟩ := h.cf
  have hb := h.ok.b0
  have hf := h.ok.fit
  refine (ack_walk next A0 c0 rs w0 w hr h.bl h.sd ⟨hb, by omega⟩ hok).mono ?_
  rintro e W' ⟨rfl, v1, hI, hL⟩
  exact ⟨v1, rfl, ⟨hI, h.bl.trans hL.below, h.ok.ack (by omega) next rs, h.cf⟩, hL⟩
theorem ack_base {c : Cfg} {bs nw : Int} {its : List S54} (h : Good c bs nw its) (next : Int) (rs : List (Int × Int)) : bs ≤ (ackL bs nw its next rs).1 ∧ (ackL bs nw its next rs).1 ≤ c.n := by
  obtain ⟨d, h1, h2, _⟩ := ack_spec bs nw its next rs
  have := h.fit
  rw [h2]
  omega
/-- what is told at a tick is in order, and in the window -/
theorem outs_order {c : Cfg} {bs nw : Int} {its : List S54} (h : Good c bs nw its) : ((tickL c bs nw its).2.length : Int) ≤ c.wd ∧ (∀ j, j < (tickL c bs nw its).2.length → bs ≤ (tickL c bs nw its).2.getD j 0 ∧ (tickL c bs nw its).2.getD j 0 < bs + c.wd ∧ (tickL c bs nw its).2.getD j 0 < c.n) ∧
    ∀ j, j + 1 < (tickL c bs nw its).2.length → (tickL c bs nw its).2.getD j 0 < (tickL c bs nw its).2.getD (j + 1) 0 := by
  have hw := h.winL
  have hp : List.Pairwise (· < ·) (tickL c bs nw its).2 := by
    rw [tick_outs]
    refine List.Pairwise.map _ (fun a b hab => ?_) (List.Pairwise.filter _ List.pairwise_lt_range)
    show bs + (a : Int) < bs + (b : Int)
    have : a < b := hab
    omega
  have hl : (tickL c bs nw its).2.length ≤ winL c bs its := by
    rw [tick_outs, List.length_map]
    exact Nat.le_trans (List.length_filter_le _ _) (by simp)
  have hm : ∀ x ∈ (tickL c bs nw its).2, ∃ t : Nat, t < winL c bs its ∧ x = bs + t := by
    intro x hx
    rw [tick_outs] at hx
    obtain ⟨t, ht, rfl⟩ := List.mem_map.1 hx
    exact ⟨t, List.mem_range.1 (List.mem_filter.1 ht).1, rfl⟩
  refine ⟨by omega, fun j hj => ?_, fun j hj => ?_⟩
  · obtain ⟨t, ht, e⟩ := hm _ (List.getElem_mem hj)
    rw [List.getD_eq_getElem?_getD, List.getElem?_eq_getElem hj, Option.getD_some, e]
    omega
  · rw [List.getD_eq_getElem?_getD, List.getElem?_eq_getElem (by omega), List.getD_eq_getElem?_getD, List.getElem?_eq_getElem hj, Option.getD_some, Option.getD_some]
    exact List.pairwise_iff_getElem.1 hp j (j + 1) (by omega) hj (by omega)
end Go.Proofs.Ytfmggodmhklfoaa.Lib
