/- BlocksReads: walked by hand: whatever parts are pushed, what is told is what the document's run over all of them tells. -/
import Derived.Test.YtcfdhfgnfakiiaaV6
namespace Go.Proofs.Ytcfdhfgnfakiiaa.Lib
open Go.RowKit Go.Proofs.YtcfdhfgnfakiiaaW.PrintWords Go.Proofs.YtcfdhfgnfakiiaaW.PrintLast Go.Proofs.YtcfdhfgnfakiiaaW.PrintMore
attribute [local go_sem] max2_int min2_int max_two min_two
abbrev PP (l : List Int) : List Int × Int × Int × Bool × List Int := pushL 0 0 false l
theorem PP_bd {l : List Int} (h : BytesB l) : (PP l).1.length ≤ l.length ∧ 0 ≤ (PP l).2.1 ∧ (PP l).2.1 ≤ 255 ∧ 0 ≤ (PP l).2.2.1 ∧ (PP l).2.2.1 ≤ l.length ∧ (PP l).2.2.2.2.length ≤ l.length := by
  have := pushL_bd l 0 0 false (by omega) (by omega) (by omega) h
  rw [Int.zero_add] at this
  exact this
theorem S4 {W : World} {gx t : Nat} {a b c d : Value} (h : W.heap[gx]? = some (.cells #[a, b, c, d] t (0, 0))) : W.cell? ⟨gx, 0, none⟩ = some a ∧ W.cell? ⟨gx, 1, none⟩ = some b ∧ W.cell? ⟨gx, 2, none⟩ = some c ∧ W.cell? ⟨gx, 3, none⟩ = some d := ⟨blk_cell h 0, blk_cell h 1, blk_cell h 2, blk_cell h 3⟩
theorem rd_drew {W : World} {n₀ g : Nat} {a b : Int} {d : Bool} {v : Value} {r : List Int} (h : IsRd W n₀ g a b d v r) : IsRd W.drew n₀ g a b d v r := ⟨blk_drew h.1, h.2.1, Kd.R_drew h.2.2⟩
theorem below_weaken' {B : World} {w w1 : World} (h : Below B.heap.size B w) (k : Below w.heap.size w w1) : Below B.heap.size B w1 := h.trans (k.mono h.size)
def ReadsRel (w : World) (g n : Nat) (L : List (List Int)) (va vt : Value) (i : Value) (wr : World) : Prop :=
  ∃ (k : Nat) (vr : Value), i = .int .i64 k ∧ k ≤ n ∧ Aside0 ((L.take k).flatten.length ≤ 600 * k) ∧ Aside0 (RdSt w wr g va vt vr (L.take k).flatten (PP (L.take k).flatten).1 (PP (L.take k).flatten).2.2.2.2 (PP (L.take k).flatten).2.1 (PP (L.take k).flatten).2.2.1 (PP (L.take k).flatten).2.2.2.1)
theorem pushed (L : List (List Int)) (k : Nat) (hk : k < L.length) : (L.take (k + 1)).flatten = (L.take k).flatten ++ L.getD k [] := by
  rw [List.take_succ_eq_append_getElem hk, List.flatten_append]
  simp [hk]
set_option maxHeartbeats 2000000 in
set_option maxRecDepth 100000 in
theorem reads_walk (A0 : Option Addr) (c0 : Nat) (L : List (List Int)) (w : World) (hr0 : Kd.C (Kd.slice 5 (Kd.int .u8)) w A0 L.length L) (hB : ∀ l ∈ L, BytesB l) :
    Calls Try.prog 4 #[.slice A0 L.length c0] w fun e w' => e = .returned (.bool true) ∧ Below w.heap.size w w' := by
  have HR := Aside0.mk hr0
  have HBy := Aside0.mk hB
  have HBf := Aside0.mk (show ∀ k, BytesB (L.take k).flatten from fun k x hx => by obtain ⟨l, hl, hx'⟩ := List.mem_flatten.1 hx; exact hB l (List.mem_of_mem_take hl) x hx')
  obtain ⟨n, hn'⟩ : ∃ n, L.length = n := ⟨_, rfl⟩
  rw [hn'] at HR ⊢
  have HN := Aside0.mk hn'
  have hu34 := Try.underlying34
  clear hn' hr0 hB
  by_cases h20 : 20 < n
  · have hd20 : decide (20 < (n : Int)) = true := decide_eq_true (by omega)
    clear HR
    go_enter Try.func4, Try.ntmps4
    go_wp2_with (go_at_call 7; refine (halftonelaw10_fixed.calls true _ rfl).mono ?_; rintro e w1 ⟨rfl, hb1⟩)
    go_ret
    exact ⟨rfl, hb1⟩
  · have hn20 : n ≤ 20 := by omega
    clear h20
    go_enter Try.func4, Try.ntmps4
    go_wp2_with (first
      | (go_at_call 7; refine (halftonelaw10_fixed.calls true _ rfl).mono ?_; rintro e w1 ⟨rfl, hb1⟩)
      | (go_at_call 11; refine (new_walk w.heap.size _ hb1.size).mono ?_; rintro e w2 ⟨g, rfl, hI2, hb2, hg2⟩))
    have HST := Aside0.mk (show RdSt w w2 g (.slice none 0 0) (.slice none 0 0) (.slice none 0 0) [] [] [] 0 0 false from ⟨hI2, Kd.R_nil _ _ _ _ _, Kd.R_nil _ _ _ _ _, ne_nil _, ne_nil _, ne_nil _, hb1.trans (hb2.mono hb1.size)⟩)
    clear hI2 hb1 hb2 hg2
    go_loopw [4, 5, 19] (fun va vt i wr => ReadsRel w g n L va vt i wr) (fun _ _ i _ => n - (intOf i).toNat)
    case atStart => exact ⟨0, _, rfl, Nat.zero_le _, ⟨by simp⟩, ⟨by simpa [pushL] using HST.out⟩⟩
    case round =>
      clear HST
      obtain ⟨k, vr, rfl, hk, HL, HST⟩ := hrel
      by_cases hlt : k < n
      · obtain ⟨ad, cs, rfl, _, hKp, hcell⟩ := Kd.C_get (Kd.C_below HR.out HST.out.bl) [] (k : Int) (by omega) (by omega)
        obtain ⟨Ap, cp, rfl, hcp, hCp⟩ := hKp
        have hx := hcell 0 _ rfl
        have e1 : (Kd.slice 5 (Kd.int .u8)).sz = 1 := rfl
        rw [e1] at hx
        simp only [Int.toNat_natCast, Nat.mul_one, Nat.add_zero] at hx hCp hcp
        have HPU := Aside0.mk (pushed L k (by rw [HN.out]; omega))
        have HPB := Aside0.mk (show BytesB (L.getD k []) from HBy.out _ (by rw [List.getD_eq_getElem?_getD, List.getElem?_eq_getElem (by rw [HN.out]; omega)]; simp))
        obtain ⟨p, hp⟩ : ∃ p, L.getD k [] = p := ⟨_, rfl⟩
        rw [hp] at hx hCp hcp HPU HPB
        clear hp hcell
        have HCp := Aside0.mk hCp
        clear hCp
        by_cases h600 : 600 < p.length
        · have hd6 : decide (600 < (p.length : Int)) = true := decide_eq_true (by omega)
          go_wp2
          go_ret
          exact ⟨rfl, HST.out.bl⟩
        · have hd6 : decide (600 < (p.length : Int)) = false := decide_eq_false (by omega)
          have h600' : p.length ≤ 600 := by omega
          clear h600
          have HBD := Aside0.mk (show (0 ≤ (PP (L.take k).flatten).2.1 ∧ (PP (L.take k).flatten).2.1 ≤ 255) ∧ 0 ≤ (PP (L.take k).flatten).2.2.1 ∧ (PP (L.take k).flatten).2.2.1 ≤ 12000 ∧ (PP (L.take k).flatten).2.2.2.2.length ≤ 12000 by
            have h := PP_bd (HBf.out k)
            have hl := HL.out
            omega)
          have HBD2 := Aside0.mk (show (PP (L.take k).flatten).1.length ≤ 12000 ∧ (pushL (PP (L.take k).flatten).2.1 (PP (L.take k).flatten).2.2.1 (PP (L.take k).flatten).2.2.2.1 p).1.length ≤ 600 by
            have h := PP_bd (HBf.out k)
            have hl := HL.out
            have h2 := pushL_bd p _ _ (PP (L.take k).flatten).2.2.2.1 HBD.out.1.1 HBD.out.1.2 HBD.out.2.1 HPB.out
            exact ⟨by omega, by have := h2.1; omega⟩)
          go_wp2_with (first
            | ((with_reducible refine gate_dst (N := 26) rfl ?_); refine Kd.R_lit (Kd.int .u8) (w0 := wr) wr.heap.size 5 ?hg (N := 26) ?hd (xs := ([] : List Int)) (inner := []) (ok := fun _ => True) (okp := fun _ => True) ?hr ?hp (fun _ hk => hk) trivial (Below.refl _ _) (Nat.le_refl _) (by simp) ?_; (case hd => rfl); (case hg => rfl); (case hr => first | (go_simp; done) | (go_simp; rfl)); (case hp => exact (Reps.none _ _)); intro v1 w1 ho1 hb1 hg_ hnew_; clear hg_ hnew_)
            | ((with_reducible refine gate_builtin (b := .append) (xs := #[.tmp 26, .tmp 27]) rfl ?_); at_builtin; refine Kd.R_append_rows (Kd.int .u8) (w0 := wr) wr.heap.size rfl (.tmp 26) (.tmp 27) 22 5 (.int .u8 0) 1 rfl Try.underlying22 info5_ rfl (by decide) (by omega) v1 [] p _ _ _ (fun _ => True) (fun _ => False) rfl rfl ho1 (Kd.C_below HCp.out hb1) (fun _ _ h => h) (fun _ h => h.elim) (fun _ _ => trivial) hb1 hb1.size (by simp; omega) ?_; intro v2 w2 ho2 hb2 hg_ hat_; clear hg_ hat_ ho1 hb1; rw [List.nil_append] at ho2; have HST2 := Aside0.mk (HST.out.ext hb2); have HB2 := Aside0.mk hb2; have HO2 := Aside0.mk ho2; clear hb2 ho2)
            | ((with_reducible refine gate_builtin (b := .append) (xs := #[.tmp 29, .tmp 30]) rfl ?_); at_builtin; refine Kd.R_append_rows (Kd.int .u8) (w0 := w) w.heap.size rfl (.tmp 29) (.tmp 30) 22 5 (.int .u8 0) 1 rfl Try.underlying22 info5_ rfl (by decide) (by omega) u4 (L.take k).flatten p _ _ _ (fun _ => True) (fun _ => False) rfl rfl HST2.out.ra (Kd.C_below HCp.out HB2.out) (fun _ _ h => h) (fun _ h => h.elim) (fun _ _ => trivial) HST2.out.bl HST2.out.bl.size (by have := HL.out; omega) ?_; intro v3 w3 ho3 hb3 hg3 hat3; have HST3 := Aside0.mk (HST2.out.app_all ho3 hb3 hg3 hat3); have HO3 := Aside0.mk (show R8 w3 wr.heap.size v2 p from Kd.R_grown2 HO2.out rfl hg3 (fun k e e2 => ne_old HST.out.ra HO2.out k e e2.symm)); have HNE := Aside0.mk (show NeRow v2 v3 by (obtain ⟨i_, hi_⟩ := R8.own HO2.out; exact ne_append' (ne_symm (ne_old HST.out.ra HO2.out)) hat3 hi_)); have HSZ3 := Aside0.mk (Nat.le_trans HB2.out.size (KeepBut.of_grown hg3 0).1); clear ho3 hb3 hg3 hat3; obtain ⟨A2, c2, e2, hc2, hC2⟩ := Kd.R_reads HO3.out; subst e2)
            | (go_at_call 12; refine (push_walk w.heap.size g _ _ _ vr _ A2 c2 p w3 HST3.out.rd hC2 hc2 HBD.out.1 ⟨HBD.out.2.1, by have := HBD.out.2.2.1; omega⟩ HPB.out (by omega) (by have := HBD.out.2.2.2; omega) HST3.out.bl.size).mono ?_; rintro e w4 ⟨o4, vr4, rfl, hI4, ho4, hk4, hb4, hat4⟩; have HST4 := Aside0.mk (HST3.out.push hI4 hk4 hb4 hat4); have HO4 := Aside0.mk (show R8 w4 wr.heap.size (.slice A2 p.length c2) p from R8.keepB HO3.out hk4 (rd_ne HST3.out.rd HO3.out) (fun k e e2 => ne_old HST.out.rd.2.2 HO3.out k e e2)); have HNR4 := Aside0.mk (show NeRow (.slice A2 p.length c2) vr4 by (obtain ⟨i_, hi_⟩ := R8.own HO3.out; exact ne_append' (ne_symm (ne_old HST.out.rd.2.2 HO3.out)) hat4 hi_)); have HV4 := Aside0.mk (Kd.R_lower ho4 HST3.out.bl.size); have HSZ4 := Aside0.mk (Nat.le_trans HSZ3.out hk4.1); clear hI4 hk4 hb4 hat4 ho4; obtain ⟨A4, c4, e4, hc4, hC4⟩ := Kd.R_reads HV4.out; subst e4)
            | ((with_reducible refine gate_builtin (b := .append) (xs := #[.tmp 32, .tmp 35]) rfl ?_); at_builtin; refine Kd.R_append_rows (Kd.int .u8) (w0 := w) w.heap.size rfl (.tmp 32) (.tmp 35) 22 5 (.int .u8 0) 1 rfl Try.underlying22 info5_ rfl (by decide) (by omega) u5 (PP (L.take k).flatten).1 _ _ _ _ (fun _ => True) (fun _ => False) rfl rfl HST4.out.rt hC4 (fun _ _ h => h) (fun _ h => h.elim) (fun _ _ => trivial) HST4.out.bl HST4.out.bl.size ?aL ?_; (case aL => have h1_ := HBD2.out.1; have h2_ := HBD2.out.2; omega); intro v5 w5 ho5 hb5 hg5 hat5; have HST5 := Aside0.mk (HST4.out.app_told ho5 hb5 hg5 hat5); have HO5 := Aside0.mk (show R8 w5 wr.heap.size (.slice A2 p.length c2) p from Kd.R_grown2 HO4.out rfl hg5 (fun k e e2 => ne_old HST.out.rt HO4.out k e e2.symm)); have HNE5 := Aside0.mk (show NeRow (.slice A2 p.length c2) v5 by (obtain ⟨i_, hi_⟩ := R8.own HO4.out; exact ne_append' (ne_symm (ne_old HST.out.rt HO4.out)) hat5 hi_)); have HSZ := Aside0.mk (Nat.le_trans HSZ4.out (KeepBut.of_grown hg5 0).1); clear ho5 hb5 hg5 hat5 HO4 HV4 hC4))
          have HQ := Aside0.mk (show RdSt w w5 g v3 v5 vr4 (L.take (k + 1)).flatten (PP (L.take (k + 1)).flatten).1 (PP (L.take (k + 1)).flatten).2.2.2.2 (PP (L.take (k + 1)).flatten).2.1 (PP (L.take (k + 1)).flatten).2.2.1 (PP (L.take (k + 1)).flatten).2.2.2.1 from by rw [HPU.out]; unfold PP; rw [pushL_append]; exact HST5.out)
          have HAL := Aside0.mk (show (L.take (k + 1)).flatten.length ≤ 600 * (k + 1) by rw [HPU.out, List.length_append]; have := HL.out; omega)
          have HAB := Aside0.mk (HBf.out (k + 1))
          clear HST5
          obtain ⟨al, hal⟩ : ∃ x, (L.take (k + 1)).flatten = x := ⟨_, rfl⟩
          rw [hal] at HQ HAL HAB
          have HAE := Aside0.mk hal
          clear hal
          obtain ⟨wo, rfl⟩ : ∃ wo : World, wo = wr := ⟨_, rfl⟩
          obtain ⟨gv, hgv⟩ : ∃ gv, Aside0 ((0 < p.length → A2 = some ⟨gv, 0, none⟩) ∧ wo.heap.size ≤ gv ∧ gv ≠ g ∧ some gv ≠ v3.ownBlock ∧ some gv ≠ v5.ownBlock ∧ some gv ≠ vr4.ownBlock) := by
            rcases Nat.eq_zero_or_pos p.length with h0 | h0
            · exact ⟨w5.heap.size, ⟨fun h => by omega, HSZ.out, fun e => by have := blk_lt HQ.out.rd.1; omega, by simpa using Kd.R_ne_new HQ.out.ra 0, by simpa using Kd.R_ne_new HQ.out.rt 0, by simpa using Kd.R_ne_new HQ.out.rd.2.2 0⟩⟩
            · obtain ⟨gv, cap, e, hb, hlt2, _⟩ := Kd.R_form HO5.out h0
              obtain ⟨rfl, -⟩ : A2 = some ⟨gv, 0, none⟩ ∧ True := by injection e with e1; exact ⟨e1, trivial⟩
              have eo : (Value.slice (some ⟨gv, 0, none⟩) p.length c2).ownBlock = some gv := rfl
              exact ⟨gv, ⟨fun _ => rfl, hb, fun e2 => rd_ne HQ.out.rd HO5.out (by rw [eo, e2]), fun e2 => HNE.out gv eo e2.symm, fun e2 => HNE5.out gv eo e2.symm, fun e2 => HNR4.out gv eo e2.symm⟩⟩
          obtain ⟨A3, c3, e3, hc3, hC3⟩ := Kd.R_reads HQ.out.ra
          subst e3
          clear hC2 hC3
          go_loopw [39] (fun i wl => ∃ (j : Nat) (X : List Int), i = .int .i64 j ∧ j ≤ p.length ∧ X.length = p.length ∧ Aside0 (R8 wl wo.heap.size (.slice A2 p.length c2) X) ∧ Aside0 (KeepBut w5 wl gv none) ∧ Aside0 (Below w.heap.size w5 wl)) (fun i _ => p.length - (intOf i).toNat)
          case atStart => exact ⟨0, p, rfl, Nat.zero_le _, rfl, HO5, ⟨KeepBut.refl _ _ _⟩, ⟨Below.refl _ _⟩⟩
          case round =>
            obtain ⟨j, X, rfl, hj, hX, HOX, HKX, HBX⟩ := hrel
            by_cases hjl : j < p.length
            · have hA2 := hgv.out.1 (by omega)
              subst hA2
              have hcl := Kd.R_celln (0 : Int) HOX.out (j : Int) (by omega) (by omega)
              obtain ⟨hc, hf⟩ := hcl
              simp only [Int.toNat_natCast] at hc hf
              obtain ⟨xv, hxv⟩ : ∃ xv : Int, rdOf 0 X (j : Int) = xv := ⟨_, rfl⟩
              rw [hxv] at hc
              clear hxv
              go_wp2
              refine ⟨⟨j + 1, X.set j ((xv + 1) % 256), by push_cast; rfl, by omega, by simp [hX], ⟨Kd.R_putn HOX.out (j : Int) ((xv + 1) % 256)⟩, ⟨HKX.out.set_ j _⟩, ⟨HBX.out.setCell (p := ⟨gv, j, none⟩) (Nat.le_trans HST.out.bl.size hgv.out.2.1) _⟩⟩, by simp [intOf]; omega⟩
            · have HSTl := Aside0.mk (HQ.out.keep HKX.out HBX.out hgv.out.2.2.1 hgv.out.2.2.2.1 hgv.out.2.2.2.2.1 hgv.out.2.2.2.2.2)
              obtain ⟨kk, hOf⟩ := of_tells al HAB.out (by have := HAL.out; omega)
              have HOf := Aside0.mk hOf
              clear hOf
              go_wp2_with (go_at_call 13; refine (halftoneref10_Of.calls kk (fun _ => True) A3 c3 al _ _ _ _ wr (Kd.R_V HSTl.out.ra) HOf.out).mono ?_; rintro e w7 ⟨v7, v8, rfl, ho7, ho8, hb7⟩; have HB7 := Aside0.mk hb7; have HO7 := Aside0.mk (Kd.R_mono (ok' := fun _ => True) ho7 (fun _ _ => trivial)); have HO8 := Aside0.mk (Kd.R_mono (ok' := fun _ => True) ho8 (fun _ _ => trivial)); have HST7 := Aside0.mk (HSTl.out.ext hb7); clear hb7 ho7 ho8; obtain ⟨A7, c7, e7, hc7, hC7⟩ := Kd.R_reads HO7.out; subst e7; obtain ⟨A8, c8, e8, hc8, hC8⟩ := Kd.R_reads HO8.out; subst e8; have HC7 := Aside0.mk hC7; have HC8 := Aside0.mk hC8; clear hC7 hC8)
              have BK := Aside0.mk (heap_alloc_new w7 (.cells #[.slice A7 (pushL 0 0 false al).1.length c7, .slice A8 (pushL 0 0 false al).2.2.2.2.length c8, .bool (pushL 0 0 false al).2.2.2.1, .int .i64 (pushL 0 0 false al).2.2.1] 34))
              have HS8 := Aside0.mk (HST7.out.ext ((Below.refl _ _).alloc (Nat.le_refl _) (.cells #[.slice A7 (pushL 0 0 false al).1.length c7, .slice A8 (pushL 0 0 false al).2.2.2.2.length c8, .bool (pushL 0 0 false al).2.2.2.1, .int .i64 (pushL 0 0 false al).2.2.1] 34)))
              have h8a := Kd.C_alloc HC7.out (.cells #[.slice A7 (pushL 0 0 false al).1.length c7, .slice A8 (pushL 0 0 false al).2.2.2.2.length c8, .bool (pushL 0 0 false al).2.2.2.1, .int .i64 (pushL 0 0 false al).2.2.1] 34)
              have h8b := Kd.C_alloc HC8.out (.cells #[.slice A7 (pushL 0 0 false al).1.length c7, .slice A8 (pushL 0 0 false al).2.2.2.2.length c8, .bool (pushL 0 0 false al).2.2.2.1, .int .i64 (pushL 0 0 false al).2.2.1] 34)
              obtain ⟨w8, hw8⟩ : ∃ w8, w7.alloc (.cells #[.slice A7 (pushL 0 0 false al).1.length c7, .slice A8 (pushL 0 0 false al).2.2.2.2.length c8, .bool (pushL 0 0 false al).2.2.2.1, .int .i64 (pushL 0 0 false al).2.2.1] 34) = w8 := ⟨_, rfl⟩
              rw [hw8] at BK HS8 h8a h8b ⊢
              clear hw8
              have H8a := Aside0.mk h8a
              have H8b := Aside0.mk h8b
              clear h8a h8b
              obtain ⟨gx, hgx⟩ : ∃ gx, w7.heap.size = gx := ⟨_, rfl⟩
              rw [hgx] at BK ⊢
              clear hgx
              obtain ⟨A5, c5, e5, hc5, hC5⟩ := Kd.R_reads HS8.out.rt
              subst e5
              have H8c := Aside0.mk hC5
              clear hC5
              have hrl := (PP_bd HAB.out).2.2.2.2.2
              have HRL := Aside0.mk (show (pushL 0 0 false al).2.2.2.2.length ≤ 140737488351232 by have := HAL.out; have h1 : (pushL 0 0 false al).2.2.2.2.length ≤ al.length := hrl; omega)
              clear hrl
              obtain ⟨P, hP⟩ : ∃ P, pushL 0 0 false al = P := ⟨_, rfl⟩
              have hPP : PP al = P := hP
              rw [hP] at BK H8a H8b HRL hc7 hc8 ⊢
              rw [hPP] at HS8 H8c hc5 ⊢
              have HPP := Aside0.mk hPP
              clear hP hPP
              obtain ⟨o1, lf, sn, dn, rs⟩ := P
              go_region_held3 (fun w' => w'.cell? ⟨gx, 0, none⟩ = some (.slice A7 o1.length c7) ∧ w'.cell? ⟨gx, 1, none⟩ = some (.slice A8 rs.length c8) ∧ w'.cell? ⟨gx, 2, none⟩ = some (.bool dn) ∧ w'.cell? ⟨gx, 3, none⟩ = some (.int .i64 sn)) (first | exact S4 (by repeat (first | exact BK.out | exact BK9.out | (with_reducible refine blk_drewN ?_ _) | (with_reducible refine blk_drew ?_)))) (first
                | (go_at_call 10; (with_reducible refine (halftoneref01_Same.calls A5 c5 o1 A7 c7 o1 true _ ?s1 hc5 ?s2 hc7 (same_lit _)).mono ?_); (case s1 => repeat (first | exact H8c.out | (with_reducible refine Kd.C_drewN ?_ _) | (with_reducible refine Kd.C_drew ?_))); (case s2 => repeat (first | exact H8a.out | (with_reducible refine Kd.C_drewN ?_ _) | (with_reducible refine Kd.C_drew ?_))); rintro e w9 ⟨rfl, ⟨nd9, rfl⟩⟩)
                | (go_at_call 14; refine (done_walk w.heap.size g lf sn dn vr4 rs _ ?s1).mono ?_; (case s1 => repeat (first | exact HS8.out.rd | (with_reducible refine rd_drewN ?_ _) | (with_reducible refine rd_drew ?_))); rintro e w9 ⟨rfl, ⟨nd9, rfl⟩⟩)
                | (go_at_call 15; refine (rest_walk w.heap.size g lf sn dn vr4 rs _ ?s1 HRL.out).mono ?_; (case s1 => repeat (first | exact HS8.out.rd | (with_reducible refine rd_drewN ?_ _) | (with_reducible refine rd_drew ?_))); rintro e w9 ⟨v9, rfl, ho9, hb9⟩; have HB9 := Aside0.mk (below_weaken' (B := w8) (by repeat (first | exact Below.refl _ _ | apply pw_below_drewN | apply below_drew)) hb9); have BK9 := Aside0.mk (blk_below BK.out HB9.out); have HS9 := Aside0.mk (HS8.out.ext HB9.out); obtain ⟨A9, c9, e9, hc9, hC9⟩ := Kd.R_reads ho9; subst e9; have H9 := Aside0.mk hC9; clear hC9 ho9 hb9)
                | (go_at_call 10; (with_reducible refine (halftoneref01_Same.calls A9 c9 rs A8 c8 rs true _ ?s1 hc9 ?s2 hc8 (same_lit _)).mono ?_); (case s1 => repeat (first | exact H9.out | (with_reducible refine Kd.C_drewN ?_ _) | (with_reducible refine Kd.C_drew ?_))); (case s2 => repeat (first | exact Kd.C_below H8b.out HB9.out | (with_reducible refine Kd.C_drewN ?_ _) | (with_reducible refine Kd.C_drew ?_))); rintro e w10 ⟨rfl, ⟨nd10, rfl⟩⟩)
                | (go_at_call 16; refine (seen_walk w.heap.size g lf sn dn vr4 rs _ ?s1).mono ?_; (case s1 => repeat (first | exact HS9.out.rd | (with_reducible refine rd_drewN ?_ _) | (with_reducible refine rd_drew ?_))); rintro e w11 ⟨rfl, ⟨nd11, rfl⟩⟩))
              go_wp2
              refine ⟨⟨k + 1, vr4, by push_cast; rfl, by omega, ⟨by rw [HAE.out]; exact HAL.out⟩, ⟨?_⟩⟩, by simp [intOf]; omega⟩
              rw [HAE.out, HPP.out]
              exact HS9.out.ext (by repeat (first | exact Below.refl _ _ | apply pw_below_drewN | apply below_drew))
      · go_wp2
        go_ret
        exact ⟨rfl, HST.out.bl⟩
end Go.Proofs.Ytcfdhfgnfakiiaa.Lib
