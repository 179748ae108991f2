/- chunk: halftonelaw11.fixed: walked by hand: it answers true. -/
import Derived.Test.YtapaodagnpaekaaVg
namespace Go.Proofs.Ytapaodagnpaekaa.Lib
open Go.RowKit Go.Proofs.YtapaodagnpaekaaW.PrintWords Go.Proofs.YtapaodagnpaekaaW.PrintLast Go.Proofs.YtapaodagnpaekaaW.PrintMore
set_option linter.unusedVariables false
set_option linter.unusedSimpArgs false
def iend : S40 := ⟨⟨#[73, 69, 78, 68]⟩, []⟩
def ien : S40 := ⟨⟨#[73, 69, 78]⟩, []⟩
abbrev l20 : List Int := [137, 80, 78, 71, 13, 10, 26, 10, 0, 0, 0, 0, 73, 69, 78, 68, 174, 66, 96, 130]
abbrev l12 : List Int := [0, 0, 0, 0, 73, 69, 78, 68, 174, 66, 96, 130]
theorem iend_pack : packL [iend] = l20 := by decide +kernel
def RF : RS := ⟨1, [], ⟨#[73, 69, 78, 68]⟩, 0, 0, 2923585666, 0⟩
def PF : List PS := [⟨⟨#[73, 69, 78, 68]⟩, 0, [], true, true⟩]
theorem iend_run : runM 20 RS.new l20 [] = some (RF, PF) := by kernel_rfl
/-- a list of one chunk without data -/
theorem C_k40 (w : World) (b : Nat) (hb : w.heap.size = b) (s : ByteArray) : Kd.C k40 (w.alloc (.cells #[.string s, .slice none 0 0] 40)) (some ⟨b, 0, none⟩) 1 [⟨s, []⟩] := by
  subst hb
  refine ⟨rfl, by simp, fun _ => ⟨_, rfl, fun j p hj => ⟨[.string s, .slice none 0 0], rfl, ?_, fun i u hi => ?_⟩⟩⟩
  · obtain rfl : j = 0 := by have := (List.getElem?_eq_some_iff.1 hj).1; simp at this; omega
    obtain rfl : (⟨s, []⟩ : S40) = p := by simpa using hj
    exact k40_mk _ ⟨s, []⟩ (A1 := none) (c1 := 0) (Nat.le_refl _) (Kd.C_nil _ _)
  · obtain rfl : j = 0 := by have := (List.getElem?_eq_some_iff.1 hj).1; simp at this; omega
    have h2 : i < 2 := by have := (List.getElem?_eq_some_iff.1 hi).1; simpa using this
    rw [add_plain]
    show World.cell? _ ⟨w.heap.size, 0 * 2 + i, none⟩ = _
    rw [Nat.zero_mul, Nat.zero_add, new_cell]
    simpa using hi
theorem few_nil : Few [] := ⟨by simp, by simp, fun c hc => by simp at hc⟩
theorem few_one (s : ByteArray) : Few [⟨s, []⟩] := ⟨by simp, by simp, fun c hc => by
  simp at hc
  subst hc
  exact fun x hx => by simp at hx⟩
theorem fx_nil (w : World) : Calls Try.prog 15 #[.slice none 0 0] w fun e w' => ∃ A c, e = .returned (.tuple #[.slice A 8 c, .int .i64 0]) ∧ 8 ≤ c ∧ Kd.C (Kd.int .u8) w' A 8 firstL ∧ Below w.heap.size w w' := by
  refine (pack_walk none 0 0 [] w rfl (Kd.C_nil _ _) few_nil).mono ?_
  rintro e w' ⟨hb, ⟨h, _⟩ | ⟨_, A, c, rfl, hO, _⟩⟩
  · exact absurd h (by decide)
  · rcases hO with hO | ⟨g, hg, hO⟩
    · exact ⟨A, c, rfl, (Kd.R_reads' hO).2.1, (Kd.R_reads' hO).2.2, hb⟩
    · injection hg with h1 h2 h3
      subst h1 h3
      exact ⟨_, _, rfl, Nat.le_refl _, hO, hb⟩
theorem fx_iend (w : World) (b : Nat) (hb : w.heap.size = b) : Calls Try.prog 15 #[.slice (some ⟨b, 0, none⟩) 1 1] (w.alloc (.cells #[.string ⟨#[73, 69, 78, 68]⟩, .slice none 0 0] 40)) fun e w' => ∃ A c, e = .returned (.tuple #[.slice A 20 c, .int .i64 0]) ∧ Kd.R (Kd.int .u8) 5 w' w.heap.size (fun _ => True) (.slice A 20 c) l20 ∧ Below w.heap.size w w' := by
  refine (pack_walk (some ⟨b, 0, none⟩) 1 1 [iend] _ rfl (C_k40 w b hb _) (few_one _)).mono ?_
  rintro e w' ⟨hb, ⟨h, _⟩ | ⟨_, A, c, rfl, _, hR⟩⟩
  · exact absurd h (by decide)
  · have h1 := hR (by decide)
    rw [iend_pack] at h1 ⊢
    exact ⟨A, c, rfl, Kd.R_lower h1 (by simp), (below_alloc (Below.refl _ _) _).trans (hb.mono (by simp))⟩
theorem fx_ien (w : World) (b : Nat) (hb : w.heap.size = b) : Calls Try.prog 15 #[.slice (some ⟨b, 0, none⟩) 1 1] (w.alloc (.cells #[.string ⟨#[73, 69, 78]⟩, .slice none 0 0] 40)) fun e w' => e = .returned (.tuple #[.slice none 0 0, .int .i64 1]) ∧ Below w.heap.size w w' := by
  refine (pack_walk (some ⟨b, 0, none⟩) 1 1 [ien] _ rfl (C_k40 w b hb _) (few_one _)).mono ?_
  rintro e w' ⟨hb, ⟨_, h⟩ | ⟨h, _⟩⟩
  · exact ⟨h, (below_alloc (Below.refl _ _) _).trans (hb.mono (by simp))⟩
  · exact absurd h (by decide)
/-- what a bytes' literal is told for -/
theorem fx_same8 (W : World) (A : Option Addr) (c : Nat) (v : Value) (h1 : Kd.C (Kd.int .u8) W A 8 firstL) (h2 : 8 ≤ c) {b : Nat} {ok : Nat → Prop} (hv : Kd.R (Kd.int .u8) 5 W b ok v firstL) : Calls Try.prog 17 #[.slice A 8 c, v] W fun e w' => e = .returned (.bool true) ∧ Drawn0 W w' := by
  obtain ⟨A2, c2, rfl, hR⟩ := row_form (n := 8) rfl hv
  exact halftoneref01_Same.calls A c firstL A2 c2 firstL true W h1 h2 (Kd.R_reads' hR).2.2 (Kd.R_reads' hR).2.1 (by simp [halftoneref01_Same.f])
theorem fx_same12 (W : World) (A : Option Addr) (c : Nat) (h1 : Kd.C (Kd.int .u8) W A 12 l12) (h2 : 12 ≤ c) (b : Nat) (hb : W.heap.size = b) : Calls Try.prog 17 #[.slice A 12 c, .slice (some ⟨b, 0, none⟩) 12 12] (W.alloc (.cells #[.int .u8 0, .int .u8 0, .int .u8 0, .int .u8 0, .int .u8 73, .int .u8 69, .int .u8 78, .int .u8 68, .int .u8 174, .int .u8 66, .int .u8 96, .int .u8 130] 5)) fun e w' => e = .returned (.bool true) ∧ Below W.heap.size W w' := by
  refine (halftoneref01_Same.calls A c l12 (some ⟨b, 0, none⟩) 12 l12 true _ (Kd.C_alloc h1 _) h2 (C_new_at (xs := l12) (e := 5) (m := (0, 0)) hb (by decide)) (Nat.le_refl _) (by simp [halftoneref01_Same.f])).mono ?_
  rintro e w' ⟨rfl, q, rfl⟩
  exact ⟨rfl, pw_below_drewN (below_alloc (Below.refl _ _) _) _⟩
/-- what Push tells of it -/
theorem fx_push {w : World} {n₀ g b c : Nat} {ok : Nat → Prop} {A : Option Addr} (h : IsRd w n₀ g (.slice none 0 0) RS.new) (hn : n₀ ≤ w.heap.size) (hR : Kd.R (Kd.int .u8) 5 w b ok (.slice A 20 c) l20) (hS : ∀ k, (Value.slice A 20 c).ownBlock = some k → k < g) :
    Calls Try.prog 10 #[.pointer (some ⟨g, 0, none⟩), .slice A 20 c] w fun e w' => ∃ go co x hv, e = .returned (.tuple #[.slice (some ⟨go, 0, none⟩) 1 co, .int .i64 0]) ∧ Kd.R kp 53 w' w.heap.size (fun _ => True) (.slice (some ⟨go, 0, none⟩) 1 co) [x] ∧ x.kind = ⟨#[73, 69, 78, 68]⟩ ∧ x.bg = true ∧ x.en = true ∧ IsRd w' n₀ g hv RF ∧ Kept w w' (RdS g (.slice none 0 0)) ∧ Below n₀ w w' := by
  refine (push_walk h hn new_ok rfl A 20 c l20 rfl (Kd.R_reads' hR).2.1 (C_keptR rfl hR (fun k hk => ?_)) (fun x hx => by simp at hx; omega) (by decide) 20 (by decide) iend_run).mono ?_
  · rintro (rfl | e)
    · exact Nat.lt_irrefl _ (hS _ hk)
    · simp [Value.ownBlock] at e
  · rintro e w' ⟨hv, ov, pcs, rfl, hP⟩
    have hl : pcs.length = 0 + 1 := hP.dat.len
    obtain ⟨go, co, rfl, hR2⟩ := rowA_form hl (by omega) hP.out
    obtain ⟨x, rfl⟩ : ∃ x, pcs = [x] := List.length_eq_one_iff.1 hl
    obtain ⟨h1, h2, h3, h4, _⟩ := hP.dat.at_ 0 (by decide)
    exact ⟨go, co, x, hv, rfl, hR2, h1, h3, h4, hP.rd, hP.kp, hP.bl⟩
theorem bcell {W w1 : World} (hb : Below W.heap.size W w1) : (∀ b o, b < W.heap.size → w1.cell? ⟨b, o, none⟩ = W.cell? ⟨b, o, none⟩) ∧ (∀ b o, b < W.heap.size → w1.frozen? ⟨b, o, none⟩ = W.frozen? ⟨b, o, none⟩) :=
  ⟨fun b o h => hb.cell (p := ⟨b, o, none⟩) h, fun b o h => hb.frozen (p := ⟨b, o, none⟩) h⟩
def halftonelaw11_fixed.f : Option Bool := some true
set_option maxRecDepth 100000 in
set_option maxHeartbeats 4000000 in
theorem halftonelaw11_fixed.calls (r : Bool) (w : World) (h : halftonelaw11_fixed.f = some r) :
    Calls Try.prog 8 #[] w fun e w' => e = .returned (.bool r) ∧ Below w.heap.size w w' := by
  obtain rfl := Option.some.inj h
  obtain ⟨i5, hi5, hz5⟩ := Option.map_eq_some_iff.1 info5
  have hsz5 : i5.size = 1 := by simp only [Prod.mk.injEq] at hz5; exact hz5.2.1
  go_enter Try.func8, Try.ntmps8
  go_wp2_with fail
  refine (fx_nil w).mono ?_
  rintro e w1 ⟨A1, c1, rfl, hc1, hC1, hb1⟩
  have HC1 := Aside0.mk hC1
  have HB1 := Aside0.mk hb1
  have HCC1 := Aside0.mk hc1
  clear hC1 hb1 hc1
  go_wp2_with fail
  refine (fx_iend w1 w1.heap.size rfl).mono ?_
  rintro e w2 ⟨A2, c2, rfl, hR2, hb2⟩
  have HR2 := Aside0.mk hR2
  have HC2 := Aside0.mk (Kd.C_below HC1.out hb2)
  have HB2 := Aside0.mk (below_then HB1.out HB1.out.size hb2)
  clear hR2 hb2 HC1
  go_wp2_with fail
  refine (fx_new w2 w2.heap.size (Nat.le_refl _)).mono ?_
  rintro e w3 ⟨g, rfl, hg, hI3, hb3⟩
  have HI3 := Aside0.mk hI3
  have HR3 := Aside0.mk (Kd.R_below HR2.out hb3)
  have HB3 := Aside0.mk hb3
  have HS3 := Aside0.mk (show ∀ k, (Value.slice A2 20 c2).ownBlock = some k → k < g from fun k hk => by have := Kd.R_lt HR2.out k hk; rw [hg]; exact this)
  clear hI3 hg hb3
  go_wp2_with fail
  refine (fx_push HI3.out HB3.out.size HR3.out HS3.out).mono ?_
  rintro e w4 ⟨go, co, x, hv, rfl, hR4, hk, hbg, hen, hI4, _, hb4⟩
  have hb24 := HB3.out.trans hb4
  have HI4 := Aside0.mk hI4
  have HPC := Aside0.mk (pc_at hR4 0 (by omega)).1
  have HC4 := Aside0.mk (Kd.C_below HC2.out hb24)
  have HR4 := Aside0.mk (Kd.R_below HR2.out hb24)
  have HB4 := Aside0.mk (below_then HB2.out HB2.out.size hb24)
  have HGO := Aside0.mk (Kd.R_typed hR4 go rfl)
  have HX := Aside0.mk (And.intro hk (And.intro hbg hen))
  clear hI4 hR4 hb4 hb24 hk hbg hen HC2 HR3 HI3 HS3
  go_wp2_with fail
  refine (fx_ien w4 w4.heap.size rfl).mono ?_
  rintro e w5 ⟨rfl, hb5⟩
  have HI5 := Aside0.mk (HI4.out.ext hb5)
  have HC5 := Aside0.mk (Kd.C_below HC4.out hb5)
  have HR5 := Aside0.mk (Kd.R_below HR4.out hb5)
  have HB5 := Aside0.mk (below_then HB4.out HB4.out.size hb5)
  obtain ⟨csg, hgo⟩ := HGO.out
  have hgl := blk_lt hgo
  have hq := HPC.out
  have hk2 : w5.cell? ⟨go, 0, none⟩ = some (.string ⟨#[73, 69, 78, 68]⟩) := by rw [hb5.cell (p := ⟨go, 0, none⟩) hgl]; have := hq.1; rw [Nat.zero_mul] at this; rw [this]; exact congrArg (fun s => some (Value.string s)) HX.out.1
  have hk3 : w5.cell? ⟨go, 3, none⟩ = some (.bool true) := by rw [hb5.cell (p := ⟨go, 3, none⟩) hgl]; have := hq.2.2.2.1; rw [Nat.zero_mul, Nat.zero_add] at this; rw [this]; exact congrArg (fun s => some (Value.bool s)) HX.out.2.1
  have hk4 : w5.cell? ⟨go, 4, none⟩ = some (.bool true) := by rw [hb5.cell (p := ⟨go, 4, none⟩) hgl]; have := hq.2.2.2.2; rw [Nat.zero_mul, Nat.zero_add] at this; rw [this]; exact congrArg (fun s => some (Value.bool s)) HX.out.2.2
  have hgl5 : go < w5.heap.size := Nat.lt_of_lt_of_le hgl hb5.size
  have hc20 := (Kd.R_reads' HR5.out).2.1
  obtain ⟨A3, hA3⟩ : ∃ A3, (if c2 = 8 then A2 else A2.map (·.add (8 * 1))) = A3 := ⟨_, rfl⟩
  have hcf := cut_from (P := Try.prog) 26 5 .i64 Try.underlying26 hi5 1 hsz5 A2 20 c2 (8 : Int) (by decide) (by decide)
  rw [show (8 : Int).toNat = 8 from rfl, hA3] at hcf
  have HC3 := Aside0.mk (show ∀ W, Below w5.heap.size w5 W → Kd.C (Kd.int .u8) W A3 12 l12 from fun W hW => by
    have h2 := Kd.C_drop (Kd.C_below (Kd.R_reads' HR5.out).2.2 hW) (m := 8) (c := c2) (by decide) hc20
    rw [show (Kd.int .u8).sz = 1 from rfl, hA3] at h2
    exact h2)
  have HCC := Aside0.mk (show 12 ≤ c2 - 8 from by omega)
  clear hb5 hgo hq hA3 hgl HC4 HR4
  have hcc := HCC1.out
  go_wp2_with (first
    | (go_at_call 19; refine (halftoneref11_First.calls firstL _ rfl).mono ?_; rintro e w6 ⟨v6, rfl, hR6, hb6⟩; have HR6 := Aside0.mk hR6; have HB6 := Aside0.mk hb6; have hl6 := Nat.lt_of_lt_of_le hgl5 hb6.size; have hj2 := (hb6.cell (p := ⟨go, 0, none⟩) hgl5).trans hk2; have hj3 := (hb6.cell (p := ⟨go, 3, none⟩) hgl5).trans hk3; have hj4 := (hb6.cell (p := ⟨go, 4, none⟩) hgl5).trans hk4; clear hR6 hb6)
    | (go_at_call 17; refine (fx_same8 _ A1 c1 v6 (Kd.C_below HC5.out HB6.out) hcc HR6.out).mono ?_; rintro e w7 ⟨rfl, q7, rfl⟩)
    | (go_at_call 17; refine (fx_same12 _ A3 (c2 - 8) (HC3.out _ ?s1) HCC.out _ (by rfl)).mono ?_; (case s1 => exact pw_below_drewN HB6.out _); rintro e w8 ⟨rfl, hb8⟩; have HB8 := Aside0.mk (below_then (pw_below_drewN HB6.out _) (Nat.le_trans HB6.out.size (Nat.le_refl _)) hb8); clear hj2 hj3 hj4; have hj2 := (HB8.out.cell (p := ⟨go, 0, none⟩) hgl5).trans hk2; have hj3 := (HB8.out.cell (p := ⟨go, 3, none⟩) hgl5).trans hk3; have hj4 := (HB8.out.cell (p := ⟨go, 4, none⟩) hgl5).trans hk4; clear hb8)
    | (go_at_call 12; go_loud (refine (between_walk (r := RF) (hv := hv) (n₀ := w2.heap.size) ?s2).mono ?_; (case s2 => exact IsRd.ext HI5.out HB8.out); rintro e w9 ⟨rfl, rfl⟩)))
  go_ret
  refine ⟨rfl, ?_⟩
  exact below_then HB5.out HB5.out.size HB8.out
end Go.Proofs.Ytapaodagnpaekaa.Lib
