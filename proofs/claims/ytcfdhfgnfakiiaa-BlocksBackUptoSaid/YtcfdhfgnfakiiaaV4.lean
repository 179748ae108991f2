/- halftonelaw10.fixed: walked by hand: it answers true. -/
import Derived.Test.YtcfdhfgnfakiiaaF0
namespace Go.Proofs.Ytcfdhfgnfakiiaa.Lib
open Go.RowKit Go.Proofs.YtcfdhfgnfakiiaaW.PrintWords Go.Proofs.YtcfdhfgnfakiiaaW.PrintLast Go.Proofs.YtcfdhfgnfakiiaaW.PrintMore
def halftonelaw10_fixed.f : Option Bool := some true
theorem same_lit (l : List Int) : halftoneref01_Same.f l l = some true := by simp [halftoneref01_Same.f]
theorem lit_C {w w1 : World} {v : Value} {l : List Int} {ok : Nat → Prop} {b : Nat} (h : Kd.R (Kd.int .u8) 5 w b ok v l) (hb : Below w.heap.size w w1) : ∃ A c, v = .slice A l.length c ∧ l.length ≤ c ∧ Kd.C (Kd.int .u8) w1 A l.length l := by
  obtain ⟨A, c, e, hc, hC⟩ := Kd.R_reads h
  exact ⟨A, c, e, hc, Kd.C_below hC hb⟩
theorem lit_new (W : World) (l : List Int) (hl : l.length ≤ 9223372036854775807 := by decide) : Kd.C (Kd.int .u8) (W.alloc (.cells (nums .u8 l).toArray 5)) (some ⟨W.heap.size, 0, none⟩) l.length l := by
  refine ⟨rfl, hl, fun _ => ⟨_, rfl, fun j p hj => ⟨[.int .u8 p], rfl, rfl, fun i u hu => ?_⟩⟩⟩
  have e : (Kd.int .u8).sz = 1 := rfl
  rcases i with _ | i
  · obtain rfl : Value.int .u8 p = u := by simpa using hu
    have hb := heap_alloc_new W (.cells (nums .u8 l).toArray 5)
    unfold World.cell?
    have e2 : ((⟨W.heap.size, 0, none⟩ : Addr).add (j * (Kd.int .u8).sz + 0)) = ⟨W.heap.size, j, none⟩ := by rw [e]; by_cases h : j = 0 <;> simp [Addr.add, h]
    rw [e2, hb]
    simp [nums, hj]
  · simp at hu
theorem rd_alloc {W : World} {n₀ g : Nat} {a b : Int} {d : Bool} {v : Value} {r : List Int} (h : IsRd W n₀ g a b d v r) (o : Obj) : IsRd (W.alloc o) n₀ g a b d v r := ⟨blk_alloc h.1 o, h.2.1, Kd.R_alloc h.2.2 o⟩
theorem rd_drewN {W : World} {n₀ g : Nat} {a b : Int} {d : Bool} {v : Value} {r : List Int} (h : IsRd W n₀ g a b d v r) (m : Nat) : IsRd (W.drewN m) n₀ g a b d v r := ⟨blk_drewN h.1 m, h.2.1, Kd.R_drewN h.2.2 m⟩
set_option maxRecDepth 100000 in
set_option maxHeartbeats 1000000 in
theorem halftonelaw10_fixed.calls (r : Bool) (w : World) (h : halftonelaw10_fixed.f = some r) :
    Calls Try.prog 7 #[] w fun e w' => e = .returned (.bool r) ∧ Below w.heap.size w w' := by
  obtain rfl := Option.some.inj h
  have hp : blocks_Pack.f [7, 8, 9] 2 = some ([2, 7, 8, 1, 9, 0], 0) := by decide
  have hq : pushL 0 0 false [2, 7, 8, 1, 9, 0] = ([7, 8, 9], 0, 6, true, []) := by decide
  have hl6 : ∀ (W : World) (b : Nat), b = W.heap.size → Kd.C (Kd.int .u8) (W.alloc (.cells #[.int .u8 2, .int .u8 7, .int .u8 8, .int .u8 1, .int .u8 9, .int .u8 0] 5)) (some ⟨b, 0, none⟩) 6 [2, 7, 8, 1, 9, 0] := fun W b hb => hb ▸ lit_new W [2, 7, 8, 1, 9, 0]
  have hl3 : ∀ (W : World) (b : Nat), b = W.heap.size → Kd.C (Kd.int .u8) (W.alloc (.cells #[.int .u8 7, .int .u8 8, .int .u8 9] 5)) (some ⟨b, 0, none⟩) 3 [7, 8, 9] := fun W b hb => hb ▸ lit_new W [7, 8, 9]
  have hs6 : ∀ (W : World) (A : Option Addr) (c : Nat) (A' : Option Addr) (c' : Nat), Kd.C (Kd.int .u8) W A 6 [2, 7, 8, 1, 9, 0] → 6 ≤ c → Kd.C (Kd.int .u8) W A' 6 [2, 7, 8, 1, 9, 0] → 6 ≤ c' → Calls Try.prog 10 #[.slice A 6 c, .slice A' 6 c'] W fun e w' => e = .returned (.bool true) ∧ Drawn0 W w' :=
    fun W A c A' c' h1 h2 h3 h4 => halftoneref01_Same.calls A c [2, 7, 8, 1, 9, 0] A' c' [2, 7, 8, 1, 9, 0] true W h1 h2 h3 h4 (same_lit _)
  have hs3 : ∀ (W : World) (A : Option Addr) (c : Nat) (A' : Option Addr) (c' : Nat), Kd.C (Kd.int .u8) W A 3 [7, 8, 9] → 3 ≤ c → Kd.C (Kd.int .u8) W A' 3 [7, 8, 9] → 3 ≤ c' → Calls Try.prog 10 #[.slice A 3 c, .slice A' 3 c'] W fun e w' => e = .returned (.bool true) ∧ Drawn0 W w' :=
    fun W A c A' c' h1 h2 h3 h4 => halftoneref01_Same.calls A c [7, 8, 9] A' c' [7, 8, 9] true W h1 h2 h3 h4 (same_lit _)
  have HL6 := Aside0.mk hl6
  have HL3 := Aside0.mk hl3
  have HS6 := Aside0.mk hs6
  have HS3 := Aside0.mk hs3
  clear hl6 hl3 hs6 hs3
  go_enter Try.func7, Try.ntmps7
  go_wp2_with (first
    | ((with_reducible refine gate_dst (N := 6) rfl ?_); refine Kd.R_lit (Kd.int .u8) _ 5 ?hg (N := 6) ?hd (xs := ([7, 8, 9] : List Int)) (inner := nums .u8 [7, 8, 9]) (ok := fun _ => True) (okp := fun _ => True) ?hr ?hp (fun _ hk => hk) trivial (Below.refl _ _) (Nat.le_refl _) (by simp) ?_; (case hd => rfl); (case hg => rfl); (case hr => first | (go_simp; done) | (go_simp; rfl)); (case hp => exact reps_nums _ _ _ _); intro v1 w1 ho1 hb1 hg_ hnew_; clear hg_ hnew_; obtain ⟨A1, c1, e1, hc1, hC1⟩ := lit_C ho1 (Below.refl _ _); subst e1)
    | (go_at_call 8; refine (blocks_Pack.calls _ _ [7, 8, 9] 2 [2, 7, 8, 1, 9, 0] 0 _ hC1 hc1 hp).mono ?_; rintro e w2 ⟨v2, rfl, ho2, hb2⟩; obtain ⟨A2, c2, e2, hc2, hC2⟩ := lit_C ho2 (Below.refl _ _); subst e2)
    | (go_at_call 11; refine (new_walk w.heap.size _ ?_).mono ?_; (exact Nat.le_trans hb1.size hb2.size); rintro e w3 ⟨g, rfl, hI3, hb3, hg3⟩)
    | (go_at_call 12; refine (push_walk w.heap.size g 0 0 false _ [] A2 c2 [2, 7, 8, 1, 9, 0] _ hI3 (Kd.C_below hC2 hb3) hc2 (by decide) (by decide) (by decide) (by decide) (by decide) (Nat.le_trans hb1.size (Nat.le_trans hb2.size hb3.size))).mono ?_; rw [hq]; rintro e w4 ⟨v4, vr4, rfl, hI4, ho4, hk4, hbl4, _⟩; obtain ⟨A4, c4, e4, hc4, hC4⟩ := lit_C ho4 (Below.refl _ _); subst e4; have hC24 := (Kd.R_reads' (Kd.R_keep (Kd.R_below (Kd.R_mono (ok' := fun k => k < w2.heap.size) (Kd.R_bound ho2) (fun _ h => h.2.2.1)) hb3) hk4 (fun k hk => by have : k < w2.heap.size := hk; omega))).2.2)
    | (go_at_call 10; (with_reducible refine (HS6.out _ A2 c2 _ _ ?s1 ?s2 ?s3 ?s4).mono ?_); (case s1 => exact Kd.C_alloc hC24 _); (case s2 => exact hc2); (case s3 => exact HL6.out _ _ (by simp)); (case s4 => exact Nat.le_refl _); rintro e w5 ⟨rfl, ⟨nd5, rfl⟩⟩)
    | (go_at_call 10; (with_reducible refine (HS3.out _ A4 c4 _ _ ?s1 ?s2 ?s3 ?s4).mono ?_); (case s1 => exact Kd.C_alloc (Kd.C_drewN (Kd.C_alloc hC4 _) _) _); (case s2 => exact hc4); (case s3 => exact HL3.out _ _ (by simp)); (case s4 => exact Nat.le_refl _); rintro e w6 ⟨rfl, ⟨nd6, rfl⟩⟩)
    | (go_at_call 14; refine (done_walk w.heap.size g 0 6 true vr4 [] _ (rd_drewN (rd_alloc (rd_drewN (rd_alloc hI4 _) _) _) _)).mono ?_; rintro e w7 ⟨rfl, ⟨nd7, rfl⟩⟩)
    | (go_at_call 16; refine (seen_walk w.heap.size g 0 6 true vr4 [] _ (rd_drewN (rd_alloc (rd_drewN (rd_alloc hI4 _) _) _) _)).mono ?_; rintro e w8 ⟨rfl, ⟨nd8, rfl⟩⟩))
  have hs2 : w.heap.size ≤ w2.heap.size := Nat.le_trans hb1.size hb2.size
  have hB := ((hb1.trans (hb2.mono hb1.size)).trans (hb3.mono hs2)).trans hbl4
  go_ret
  refine ⟨rfl, ?_⟩
  repeat (first | exact hB | apply below_alloc | apply pw_below_drewN)
end Go.Proofs.Ytcfdhfgnfakiiaa.Lib
