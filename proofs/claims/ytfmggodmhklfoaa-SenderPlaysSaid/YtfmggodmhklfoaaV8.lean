/- halftonelaw23.fixed: walked by hand: it answers true. -/
import Derived.Test.YtfmggodmhklfoaaV7
namespace Go.Proofs.Ytfmggodmhklfoaa.Lib
open Go.RowKit Go.Shelf Go.Proofs.YtfmggodmhklfoaaW.PrintWords Go.Proofs.YtfmggodmhklfoaaW.PrintLast Go.Proofs.YtfmggodmhklfoaaW.PrintMore
set_option linter.unusedVariables false
set_option linter.unusedSimpArgs false
/-- a row of numbers that was told stays while the sender goes on -/
theorem R_left {w w' : World} {n₀ g base : Nat} {ok : Nat → Prop} {c : Cfg} {bs nw : Int} {vs vs' v : Value} {its : List S54} {l : List Int} (h : Kd.R (Kd.int .i64) 3 w base ok v l) (hI : IsSd w n₀ g c bs nw vs its) (hL : Left w w' n₀ g vs vs') : Kd.R (Kd.int .i64) 3 w' base ok v l := by
  refine Kd.R_mono (Kd.R_step (Kd.R_bound h) (fun k ho hlt => ?_)) (fun _ h => h.1)
  obtain ⟨_, _, _, q, hq, cells, hc⟩ := ho
  have hq3 : q = 3 := by
    rcases List.mem_cons.1 hq with h | h
    · exact h
    · exact absurd (show q ∈ ([] : List Nat) from h) List.not_mem_nil
  subst hq3
  refine hL.keep.2 k hlt ?_ ?_
  · rintro rfl
    have := hI.blk
    rw [hc] at this
    simp at this
  · intro e
    obtain ⟨cells2, h2⟩ := Kd.Q_typed hI.row k e.symm
    rw [hc] at h2
    simp at h2
theorem lit_C {w w1 : World} {v : Value} {l : List Int} {ok : Nat → Prop} {b : Nat} (h : Kd.R (Kd.int .i64) 3 w b ok v l) (hb : Below w.heap.size w w1) : ∃ A c, v = .slice A l.length c ∧ l.length ≤ c ∧ Kd.C (Kd.int .i64) w1 A l.length l := by
  obtain ⟨A, c, e, hc, hC⟩ := Kd.R_reads h
  exact ⟨A, c, e, hc, Kd.C_below hC hb⟩
theorem lit_new (W : World) (l : List Int) (hl : l.length ≤ 9223372036854775807 := by decide) : Kd.C (Kd.int .i64) (W.alloc (.cells (nums .i64 l).toArray 3)) (some ⟨W.heap.size, 0, none⟩) l.length l := by
  refine ⟨rfl, hl, fun _ => ⟨_, rfl, fun j p hj => ⟨[.int .i64 p], rfl, rfl, fun i u hu => ?_⟩⟩⟩
  have e : (Kd.int .i64).sz = 1 := rfl
  rcases i with _ | i
  · obtain rfl : Value.int .i64 p = u := by simpa using hu
    have hb := heap_alloc_new W (.cells (nums .i64 l).toArray 3)
    unfold World.cell?
    have e2 : ((⟨W.heap.size, 0, none⟩ : Addr).add (j * (Kd.int .i64).sz + 0)) = ⟨W.heap.size, j, none⟩ := by rw [e]; by_cases h : j = 0 <;> simp [Addr.add, h]
    rw [e2, hb]
    simp [nums, hj]
  · simp at hu
theorem sameInts_l0 (l : List Int) (hl : l.length ≤ 4611686018427387904) : ∀ (m : Nat) (i : Nat), i + m = l.length → halftoneref12_SameInts.l0 (m + 1) l l (l.length : Int) (i : Int) = some true
  | 0, i, h => by
    rw [halftoneref12_SameInts.l0, if_neg (by omega)]
  | m + 1, i, h => by
    rw [halftoneref12_SameInts.l0, if_pos (by omega), if_pos (by omega), if_pos (by omega), if_pos (by omega), if_pos rfl, wrap64_in (by omega) (by omega)]
    have := sameInts_l0 l hl m (i + 1) (by omega)
    push_cast at this
    exact this
theorem sameInts_refl (l : List Int) (hl : l.length ≤ 4611686018427387904) : halftoneref12_SameInts.f (l.length + 1) l l = some true := by
  rw [halftoneref12_SameInts.f, if_pos rfl]
  exact sameInts_l0 l hl l.length 0 (by omega)
theorem same_n (W : World) (l : List Int) (n : Nat) (hn : l.length = n) (hl : n ≤ 4611686018427387904) (A : Option Addr) (c : Nat) (A' : Option Addr) (c' : Nat) (h1 : Kd.C (Kd.int .i64) W A n l) (h2 : n ≤ c) (h3 : Kd.C (Kd.int .i64) W A' n l) (h4 : n ≤ c') : Calls Try.prog 14 #[.slice A n c, .slice A' n c'] W fun e w' => e = .returned (.bool true) ∧ Drawn0 W w' := by
  subst hn
  exact halftoneref12_SameInts.calls _ A c l A' c' l true W h1 h2 h3 h4 (sameInts_refl l hl)
theorem same_2 (W : World) (a b : Int) (A : Option Addr) (c : Nat) (A' : Option Addr) (c' : Nat) (h1 : Kd.C (Kd.int .i64) W A 2 [a, b]) (h2 : 2 ≤ c) (h3 : Kd.C (Kd.int .i64) W A' 2 [a, b]) (h4 : 2 ≤ c') : Calls Try.prog 14 #[.slice A 2 c, .slice A' 2 c'] W fun e w' => e = .returned (.bool true) ∧ Drawn0 W w' :=
  same_n W [a, b] 2 rfl (by omega) A c A' c' h1 h2 h3 h4
theorem same_1 (W : World) (a : Int) (A : Option Addr) (c : Nat) (A' : Option Addr) (c' : Nat) (h1 : Kd.C (Kd.int .i64) W A 1 [a]) (h2 : 1 ≤ c) (h3 : Kd.C (Kd.int .i64) W A' 1 [a]) (h4 : 1 ≤ c') : Calls Try.prog 14 #[.slice A 1 c, .slice A' 1 c'] W fun e w' => e = .returned (.bool true) ∧ Drawn0 W w' :=
  same_n W [a] 1 rfl (by omega) A c A' c' h1 h2 h3 h4
def cfx : Cfg := ⟨3, 2, 1, 4⟩
def fx1 : List S54 := [⟨false, false, 1, 2⟩, ⟨false, false, 1, 2⟩]
def fx2 : List S54 := [⟨false, false, 2, 4⟩, ⟨false, false, 2, 4⟩]
def fx3 : List S54 := [⟨false, false, 2, 4⟩]
def fx4 : List S54 := [⟨false, false, 2, 4⟩, ⟨false, false, 1, 4⟩]
def fx5 : List S54 := [⟨false, false, 4, 8⟩, ⟨false, false, 2, 6⟩]
theorem fx_t1 : tickL cfx 0 0 [] = (fx1, [0, 1]) := rfl
theorem fx_t2 : tickL cfx 0 (0 + 1) fx1 = (fx2, [0, 1]) := rfl
theorem fx_a : dropA 0 (markAll 0 (markL 0 fx2 0 1) []) = (1, fx3) := rfl
theorem fx_h : (hurry (0 + 1 + 1) fx3).1 = fx3 := rfl
theorem fx_t3 : tickL cfx 1 (0 + 1 + 1) fx3 = (fx4, [2]) := rfl
theorem fx_t4 : tickL cfx 1 (0 + 1 + 1 + 1) fx4 = (fx5, [1, 2]) := rfl
theorem fx_o : ((opensTo fx5 fx5.length).length : Int) = 2 := rfl
def fx_gap (l : List S54) : Prop := ∀ j, 0 ≤ (l.getD j z54).f2 ∧ (l.getD j z54).f2 ≤ 65536
theorem fx_g : ∀ l : List S54, (∀ x ∈ l, 0 ≤ x.f2 ∧ x.f2 ≤ 65536) → fx_gap l := by
  intro l h j
  rw [List.getD_eq_getElem?_getD]
  cases hj : l[j]? with
  | none => simp [z54]
  | some x => exact h x (List.mem_of_getElem? hj)
theorem fx_tick {its its' : List S54} {out : List Int} {bs nw : Int} {w0 w : World} {g : Nat} {vs : Value} (hI : IsSd w w0.heap.size g cfx bs nw vs its) (hw : Below w0.heap.size w0 w) (ht : tickL cfx bs nw its = (its', out)) (hm : its.length ≤ 2) (hg : fx_gap its) (hb : 0 ≤ bs ∧ bs ≤ 3) (hn : 0 ≤ nw ∧ nw ≤ 5) (n : Nat) (hl : out.length = n) :
    Calls Try.prog 15 #[.pointer (some ⟨g, 0, none⟩)] w fun e W' => ∃ A cp v1, e = .returned (.slice A n cp) ∧ n ≤ cp ∧ IsSd W' w0.heap.size g cfx bs (nw + 1) v1 its' ∧ Kd.R (Kd.int .i64) 3 W' w.heap.size (fun _ => True) (.slice A n cp) out ∧ Left w W' w0.heap.size g vs v1 ∧ Below w0.heap.size w0 W' := by
  refine (tick_walk w hI (by omega) (by simp [cfx]) hg (by omega) (by omega) hw.size (by simp [cfx]) (by simp [cfx]) (by simp [cfx])).mono ?_
  rw [ht]
  rintro e W' ⟨vo, v1, rfl, hI', ho, hL⟩
  obtain ⟨A, cp, rfl, hcp, -⟩ := Kd.R_reads ho
  simp only [hl] at ho hcp ⊢
  exact ⟨A, cp, v1, rfl, hcp, hI', ho, hL, hw.trans hL.below⟩
theorem fx_ack {w0 w : World} {g : Nat} {vs : Value} (hI : IsSd w w0.heap.size g cfx 0 (0 + 1 + 1) vs fx2) (hw : Below w0.heap.size w0 w) :
    Calls Try.prog 12 #[.pointer (some ⟨g, 0, none⟩), .int .i64 1, .slice none 0 0] w fun e W' => ∃ v1, e = .returned (.tuple #[]) ∧ IsSd W' w0.heap.size g cfx 1 (0 + 1 + 1) v1 fx3 ∧ Left w W' w0.heap.size g vs v1 ∧ Below w0.heap.size w0 W' := by
  refine (ack_walk 1 none 0 [] w0 w (Kd.R_reads' (Kd.R_nil k52 52 w0 0 (fun _ => True))).2.2 hw hI (by decide) (by simp)).mono ?_
  rw [fx_a]
  rintro e W' ⟨rfl, v1, hI', hL⟩
  rw [fx_h] at hI'
  exact ⟨v1, rfl, hI', hL, hw.trans hL.below⟩
def halftonelaw23_fixed.f : Option Bool := some true
set_option maxRecDepth 100000 in
set_option maxHeartbeats 1000000 in
theorem halftonelaw23_fixed.calls (r : Bool) (w : World) (h : halftonelaw23_fixed.f = some r) :
    Calls Try.prog 8 #[] w fun e w' => e = .returned (.bool r) ∧ Below w.heap.size w w' := by
  obtain rfl := Option.some.inj h
  have HN := Aside0.mk (show ∀ W : World, _ from fun W => new_walk 3 2 1 4 W (by unfold CfgOk; omega))
  have hl2 : ∀ (W : World) (a b : Int) (n : Nat), n = W.heap.size → Kd.C (Kd.int .i64) (W.alloc (.cells #[.int .i64 a, .int .i64 b] 3)) (some ⟨n, 0, none⟩) 2 [a, b] := fun W a b n hn => hn ▸ lit_new W [a, b] (by simp)
  have hl1 : ∀ (W : World) (a : Int) (n : Nat), n = W.heap.size → Kd.C (Kd.int .i64) (W.alloc (.cells #[.int .i64 a] 3)) (some ⟨n, 0, none⟩) 1 [a] := fun W a n hn => hn ▸ lit_new W [a] (by simp)
  have HL2 := Aside0.mk hl2
  have HL1 := Aside0.mk hl1
  clear hl2 hl1
  go_enter Try.func8, Try.ntmps8
  go_wp2_with (first
    | (go_at_call 9; refine (HN.out _).mono ?_; rintro e w1 ⟨g, rfl, hI0, hb1, hg1⟩)
    | (go_at_call 15; (with_reducible refine (fx_tick hI0 hb1 fx_t1 ?s1 ?s2 ?s3 ?s4 2 rfl).mono ?_); (case s1 => decide); (case s2 => exact fx_g _ (by decide)); (case s3 => decide); (case s4 => decide); rintro e w2 ⟨A2, c2, v2, rfl, hc2, hI2, ho2, hL2, hb2⟩)
    | (go_at_call 15; (with_reducible refine (fx_tick hI2 hb2 fx_t2 ?s1 ?s2 ?s3 ?s4 2 rfl).mono ?_); (case s1 => decide); (case s2 => exact fx_g _ (by decide)); (case s3 => decide); (case s4 => decide); rintro e w3 ⟨A3, c3, v3, rfl, hc3, hI3, ho3, hL3, hb3⟩; have ho23 := R_left ho2 hI2 hL3)
    | (go_at_call 12; (with_reducible refine (fx_ack hI3 hb3).mono ?_); rintro e w4 ⟨v4, rfl, hI4, hL4, hb4⟩; have ho24 := R_left ho23 hI3 hL4; have ho34 := R_left ho3 hI3 hL4)
    | (go_at_call 15; (with_reducible refine (fx_tick hI4 hb4 fx_t3 ?s1 ?s2 ?s3 ?s4 1 rfl).mono ?_); (case s1 => decide); (case s2 => exact fx_g _ (by decide)); (case s3 => decide); (case s4 => decide); rintro e w5 ⟨A5, c5, v5, rfl, hc5, hI5, ho5, hL5, hb5⟩; have ho25 := R_left ho24 hI4 hL5; have ho35 := R_left ho34 hI4 hL5)
    | (go_at_call 15; (with_reducible refine (fx_tick hI5 hb5 fx_t4 ?s1 ?s2 ?s3 ?s4 2 rfl).mono ?_); (case s1 => decide); (case s2 => exact fx_g _ (by decide)); (case s3 => decide); (case s4 => decide); rintro e w6 ⟨A6, c6, v6, rfl, hc6, hI6, ho6, hL6, hb6⟩; have ho26 := R_left ho25 hI5 hL6; have ho36 := R_left ho35 hI5 hL6; have ho56 := R_left ho5 hI5 hL6; have hC2 := (Kd.R_reads' ho26).2.2; have hC3 := (Kd.R_reads' ho36).2.2; have hC5 := (Kd.R_reads' ho56).2.2; have hC6 := (Kd.R_reads' ho6).2.2)
    | (go_at_call 14; (with_reducible refine (same_2 _ 0 1 A2 c2 _ _ ?s1 hc2 ?s3 ?s4).mono ?_); (case s1 => (repeat (first | exact hC2 | apply Kd.C_drewN | apply Kd.C_alloc))); (case s3 => (repeat (first | exact (HL2.out _ _ _ _ rfl) | apply Kd.C_drewN | apply Kd.C_alloc))); (case s4 => exact Nat.le_refl _); rintro e w7 ⟨rfl, ⟨nd7, rfl⟩⟩)
    | (go_at_call 14; (with_reducible refine (same_2 _ 0 1 A3 c3 _ _ ?s1 hc3 ?s3 ?s4).mono ?_); (case s1 => (repeat (first | exact hC3 | apply Kd.C_drewN | apply Kd.C_alloc))); (case s3 => (repeat (first | exact (HL2.out _ _ _ _ rfl) | apply Kd.C_drewN | apply Kd.C_alloc))); (case s4 => exact Nat.le_refl _); rintro e w8 ⟨rfl, ⟨nd8, rfl⟩⟩)
    | (go_at_call 14; (with_reducible refine (same_1 _ 2 A5 c5 _ _ ?s1 hc5 ?s3 ?s4).mono ?_); (case s1 => (repeat (first | exact hC5 | apply Kd.C_drewN | apply Kd.C_alloc))); (case s3 => (repeat (first | exact (HL1.out _ _ _ (by simp)) | apply Kd.C_drewN | apply Kd.C_alloc))); (case s4 => exact Nat.le_refl _); rintro e w9 ⟨rfl, ⟨nd9, rfl⟩⟩)
    | (go_at_call 14; (with_reducible refine (same_2 _ 1 2 A6 c6 _ _ ?s1 hc6 ?s3 ?s4).mono ?_); (case s1 => (repeat (first | exact hC6 | apply Kd.C_drewN | apply Kd.C_alloc))); (case s3 => (repeat (first | exact (HL2.out _ _ _ _ (by simp)) | apply Kd.C_drewN | apply Kd.C_alloc))); (case s4 => exact Nat.le_refl _); rintro e w10 ⟨rfl, ⟨nd10, rfl⟩⟩)
    | (go_at_call 17; refine (base_walk _ (show IsSd _ w.heap.size g cfx 1 (0 + 1 + 1 + 1 + 1) v6 fx5 by (repeat (first | exact hI6 | apply IsSd.drewN | apply IsSd.alloc)))).mono ?_; rintro e w11 ⟨rfl, ⟨nd11, rfl⟩⟩)
    | (go_at_call 19; refine (flight_walk _ (show IsSd _ w.heap.size g cfx 1 (0 + 1 + 1 + 1 + 1) v6 fx5 by (repeat (first | exact hI6 | apply IsSd.drewN | apply IsSd.alloc))) (by decide)).mono ?_; rw [fx_o]; rintro e w12 ⟨rfl, hb12⟩)
    | (go_at_call 21; refine (done_walk _ (show IsSd w12 w.heap.size g cfx 1 (0 + 1 + 1 + 1 + 1) v6 fx5 from IsSd.ext (by (repeat (first | exact hI6 | apply IsSd.drewN | apply IsSd.alloc))) hb12)).mono ?_; rintro e w13 ⟨rfl, ⟨nd13, rfl⟩⟩))
  go_ret
  refine ⟨rfl, ?_⟩
  refine pw_below_drewN ?_ _
  refine Below.trans ?_ (hb12.mono ?_)
  · repeat (first | exact hb6 | apply below_alloc | apply pw_below_drewN)
  · have := hb6.size
    simp
    omega
end Go.Proofs.Ytfmggodmhklfoaa.Lib
