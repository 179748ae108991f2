/- BlocksBack: walked by hand: what is packed is told as it was, pushed byte by byte, and what stands behind is the rest. -/
import Derived.Test.YtcfdhfgnfakiiaaV8
namespace Go.Proofs.Ytcfdhfgnfakiiaa.Lib
open Go.RowKit Go.Proofs.YtcfdhfgnfakiiaaW.PrintWords Go.Proofs.YtcfdhfgnfakiiaaW.PrintLast Go.Proofs.YtcfdhfgnfakiiaaW.PrintMore
attribute [local go_sem] max2_int min2_int max_two min_two
def BackRel (w : World) (g : Nat) (Q : List Int) (vp : Value) (vt : Value) (i : Value) (wr : World) : Prop :=
  ∃ (k : Nat) (vr : Value), i = .int .i64 k ∧ k ≤ Q.length ∧ Aside0 (RdSt w wr g vp vt vr Q (PP (Q.take k)).1 (PP (Q.take k)).2.2.2.2 (PP (Q.take k)).2.1 (PP (Q.take k)).2.2.1 (PP (Q.take k)).2.2.2.1)
theorem take_one (Q : List Int) (k : Nat) (_hk : k < Q.length) : Q.take (k + 1) = Q.take k ++ (Q.take (k + 1)).drop k := by
  rw [List.drop_take]
  rw [List.take_add]
  simp
set_option maxHeartbeats 2000000 in
set_option maxRecDepth 100000 in
theorem back_walk (A0 : Option Addr) (c0 : Nat) (l0 : List Int) (a1 : Int) (A2 : Option Addr) (c2 : Nat) (l2 : List Int) (w : World) (hr0 : Kd.C (Kd.int .u8) w A0 l0.length l0) (hc0 : l0.length ≤ c0) (hB0 : BytesB l0) (y0 : l0.length ≤ 1048576) (h1 : 0 ≤ a1 ∧ a1 ≤ 255)
    (hr2 : Kd.C (Kd.int .u8) w A2 l2.length l2) (hc2 : l2.length ≤ c2) (hB2 : BytesB l2) (y2 : l2.length ≤ 1048576) :
    Calls Try.prog 5 #[.slice A0 l0.length c0, .int .u8 a1, .slice A2 l2.length c2] w fun e w' => e = .returned (.bool true) ∧ Below w.heap.size w w' := by
  obtain ⟨s, hs⟩ : ∃ s : Nat, 1 + a1 % 255 = s := ⟨(1 + a1 % 255).toNat, by omega⟩
  have hs1 : 1 ≤ s ∧ s ≤ 255 := by omega
  have hpk : blocks_Pack.f l0 s = some (pk l0 s, 0) := by
    unfold blocks_Pack.f
    rw [if_neg (by omega), if_pos (by omega)]
    rfl
  have HPK := Aside0.mk hpk
  have hT := pk_tells s hs1.1 l0.length l0 0 (Nat.le_refl _)
  have hO := pk_open s hs1.1 l0
  obtain ⟨hQB, hQL⟩ := pk_bytes s hs1.1 hs1.2 l0.length l0 (Nat.le_refl _) hB0
  obtain ⟨Q, hQ⟩ : ∃ Q, pk l0 s = Q := ⟨_, rfl⟩
  rw [hQ] at hT hO hQB hQL HPK
  clear hpk hQ
  rw [Int.zero_add] at hT
  have HT := Aside0.mk hT
  have HO := Aside0.mk hO
  have HQB := Aside0.mk hQB
  have HR0 := Aside0.mk hr0
  have HR2 := Aside0.mk hr2
  have HB2 := Aside0.mk hB2
  have HS := Aside0.mk hs
  have hQ2 : Q.length ≤ 2097153 := by omega
  clear hT hO hQB hr0 hr2 hB2 hB0 hQL
  have hsw : (1 : Int) + a1 % 255 = (s : Int) := hs
  clear hs
  go_enter Try.func5, Try.ntmps5
  go_wp2_with (first
    | (go_at_call 7; refine (halftonelaw10_fixed.calls true _ rfl).mono ?_; rintro e w1 ⟨rfl, hb1⟩; have HB1 := Aside0.mk hb1; clear hb1)
    | (go_at_call 8; refine (blocks_Pack.calls A0 c0 l0 s Q 0 w1 (Kd.C_below HR0.out HB1.out) hc0 HPK.out).mono ?_; rintro e w2 ⟨v2, rfl, ho2, hb2⟩; have HB2' := Aside0.mk (HB1.out.trans (hb2.mono HB1.out.size)); have HV := Aside0.mk (Kd.R_lower ho2 HB1.out.size); clear ho2 hb2; obtain ⟨A3, c3, e3, hc3, hC3⟩ := Kd.R_reads HV.out; subst e3; clear hC3)
    | (go_at_call 11; refine (new_walk w.heap.size _ HB2'.out.size).mono ?_; rintro e w3 ⟨g, rfl, hI3, hb3, hg3⟩; have HST := Aside0.mk (show RdSt w w3 g (.slice A3 Q.length c3) (.slice none 0 0) (.slice none 0 0) Q [] [] 0 0 false from ⟨hI3, Kd.R_below HV.out hb3, Kd.R_nil _ _ _ _ _, ne_nil' _, ne_nil' _, ne_nil _, HB2'.out.trans (hb3.mono HB2'.out.size)⟩); clear hI3 hb3 hg3))
  clear HV HB2' HB1
  go_loopw [10, 28] (fun vt i wr => BackRel w g Q (.slice A3 Q.length c3) vt i wr) (fun _ i _ => Q.length - (intOf i).toNat)
  case atStart => exact ⟨0, _, rfl, Nat.zero_le _, ⟨by simpa [pushL] using HST.out⟩⟩
  case round =>
    clear HST
    obtain ⟨k, vr, rfl, hk, HST⟩ := hrel
    by_cases hlt : k < Q.length
    · have hop := HO.out k hlt
      have HBD := Aside0.mk (PP_bd (l := Q.take k) (fun x hx => HQB.out x (List.mem_of_mem_take hx)))
      have HTK := Aside0.mk (take_one Q k hlt)
      have HQ1 := Aside0.mk (show BytesB ((Q.take (k + 1)).drop k) from fun x hx => HQB.out x (List.mem_of_mem_take (List.mem_of_mem_drop hx)))
      have hl1 : ((Q.take (k + 1)).drop k).length = 1 := by simp; omega
      have hC1 := Kd.C_mid (lo := k) (hi := k + 1) (c := c3) (Kd.R_reads' HST.out.ra).2.2 (by omega) (by omega) hc3
      rw [show (Kd.int .u8).sz = 1 from rfl, Nat.mul_one, if_neg (by omega)] at hC1
      have HC1 := Aside0.mk hC1
      clear hC1
      obtain ⟨lf, sn, dn, o1, rs, hP⟩ : ∃ lf sn dn o1 rs, PP (Q.take k) = (o1, lf, sn, dn, rs) := ⟨_, _, _, _, _, rfl⟩
      rw [hP] at HST hop HBD
      have hop' : dn = false := hop
      subst hop'
      have HP := Aside0.mk hP
      have hl1' := Aside0.mk hl1
      have HLT := Aside0.mk (show (Q.take k).length ≤ 2097153 by simp; omega)
      clear hP hop hl1
      have hpw : ∀ nd : Nat, Calls Try.prog 12 #[.pointer (some ⟨g, 0, none⟩), .slice (A3.map (fun x => x.add k)) 1 (c3 - k)] (wr.drewN nd) (fun e w' => PushSays (wr.drewN nd) w' w.heap.size g vr rs (pushL lf sn false ((Q.take (k + 1)).drop k)) e) := fun nd => by
        have h1_ := HBD.out
        have h2_ := HLT.out
        have h3_ := hl1'.out
        simp only at h1_
        have h := push_walk w.heap.size g lf sn false vr rs (A3.map (fun x => x.add k)) (c3 - k) ((Q.take (k + 1)).drop k) (wr.drewN nd) (rd_drewN HST.out.rd nd) (Kd.C_drewN HC1.out nd) (by omega) ⟨by omega, by omega⟩ ⟨by omega, by omega⟩ HQ1.out (by omega) (by omega) HST.out.bl.size
        rw [h3_] at h
        exact h
      have HPL := Aside0.mk (show (pushL lf sn false ((Q.take (k + 1)).drop k)).1.length ≤ 1 by
        have h1_ := HBD.out
        have h := (pushL_bd ((Q.take (k + 1)).drop k) lf sn false h1_.2.1 h1_.2.2.1 h1_.2.2.2.1 HQ1.out).1
        rw [hl1'.out] at h
        exact h)
      have HOL := Aside0.mk (show o1.length ≤ 2097153 by have h1_ := HBD.out.1; have h2_ := HLT.out; simp only at h1_; omega)
      have HPW := Aside0.mk hpw
      clear hpw
      go_wp2_with (first
        | (go_at_call 14; refine (done_walk w.heap.size g lf sn false vr rs _ HST.out.rd).mono ?_; rintro e w4 ⟨rfl, ⟨nd4, rfl⟩⟩)
        | (go_at_call 12; refine (HPW.out nd4).mono ?_; rintro e w4 ⟨o4, vr4, rfl, hI4, ho4, hk4, hb4, hat4⟩; have HST4 := Aside0.mk ((HST.out.ext (pw_below_drewN (Below.refl _ _) nd4)).push hI4 hk4 hb4 hat4); have HV4 := Aside0.mk ho4; clear hI4 hk4 hb4 hat4 ho4; obtain ⟨A4, c4, e4, hc4, hC4⟩ := Kd.R_reads HV4.out; subst e4)
        | ((with_reducible refine gate_builtin (b := .append) (xs := #[.tmp 33, .tmp 40]) rfl ?_); at_builtin; refine Kd.R_append_rows (Kd.int .u8) (w0 := w) w.heap.size rfl (.tmp 33) (.tmp 40) 22 5 (.int .u8 0) 1 rfl Try.underlying22 info5_ rfl (by decide) (by omega) u10 o1 _ _ _ _ (fun _ => True) (fun _ => False) rfl rfl HST4.out.rt hC4 (fun _ _ h => h) (fun _ h => h.elim) (fun _ _ => trivial) HST4.out.bl HST4.out.bl.size ?aL ?_; (case aL => have h1_ := HPL.out; have h2_ := HOL.out; omega); intro v5 w5 ho5 hb5 hg5 hat5; have HST5 := Aside0.mk (HST4.out.app_told ho5 hb5 hg5 hat5); clear ho5 hb5 hg5 hat5))
      refine ⟨⟨k + 1, vr4, by push_cast; rfl, by omega, ⟨?_⟩⟩, by simp [intOf]; omega⟩
      have h5 := HST5.out
      have hPP : PP (Q.take (k + 1)) = (o1 ++ (pushL lf sn false ((Q.take (k + 1)).drop k)).1, (pushL lf sn false ((Q.take (k + 1)).drop k)).2.1, (pushL lf sn false ((Q.take (k + 1)).drop k)).2.2.1, (pushL lf sn false ((Q.take (k + 1)).drop k)).2.2.2.1, rs ++ (pushL lf sn false ((Q.take (k + 1)).drop k)).2.2.2.2) := by
        have hq := HP.out
        unfold PP at hq ⊢
        conv => lhs; rw [HTK.out, pushL_append, hq]
      rw [hPP]
      exact h5
    · have ek : k = Q.length := by omega
      subst ek
      have hTP : PP Q = (l0, 0, (Q.length : Int), true, []) := HT.out
      rw [List.take_length, hTP] at HST
      obtain ⟨AT, cT, eT, hcT, hCT⟩ := Kd.R_reads HST.out.rt
      subst eT
      have HCT := Aside0.mk hCT
      clear hCT
      have hpw : ∀ W : World, IsRd W w.heap.size g 0 Q.length true vr [] → Kd.C (Kd.int .u8) W A2 l2.length l2 → w.heap.size ≤ W.heap.size → Calls Try.prog 12 #[.pointer (some ⟨g, 0, none⟩), .slice A2 l2.length c2] W (fun e w' => PushSays W w' w.heap.size g vr [] ([], 0, (Q.length : Int), true, l2) e) := fun W h1_ h2_ h3_ => by
        have h := push_walk w.heap.size g 0 Q.length true vr [] A2 c2 l2 W h1_ h2_ hc2 ⟨by omega, by omega⟩ ⟨by omega, by omega⟩ HB2.out (by omega) (by simp; omega) h3_
        rw [pushL_true] at h
        exact h
      have HPW := Aside0.mk hpw
      clear hpw
      go_wp2_with (first
        | (go_at_call 14; refine (done_walk w.heap.size g _ _ _ vr [] _ HST.out.rd).mono ?_; rintro e w4 ⟨rfl, hd4⟩; have HSB := Aside0.mk (Drawn0.mk hd4).below; have HS4 := Aside0.mk (HST.out.ext HSB.out); clear hd4)
        | (go_at_call 16; refine (seen_walk w.heap.size g 0 Q.length true vr [] w4 HS4.out.rd).mono ?_; rintro e w5 ⟨rfl, hd5⟩; have HD5 := Aside0.mk (Drawn0.mk hd5).below; have HS5 := Aside0.mk (HS4.out.ext HD5.out); clear hd5)
        | (go_at_call 10; (with_reducible refine (halftoneref01_Same.calls AT cT l0 A0 c0 l0 true w5 (Kd.C_below (Kd.C_below HCT.out HSB.out) HD5.out) hcT (Kd.C_below HR0.out HS5.out.bl) hc0 (same_lit _)).mono ?_); rintro e w6 ⟨rfl, hd6⟩; have HS6 := Aside0.mk (HS5.out.ext hd6.below); clear hd6)
        | (go_at_call 12; refine (HPW.out w6 HS6.out.rd (Kd.C_below HR2.out HS6.out.bl) HS6.out.bl.size).mono ?_; rintro e w7 ⟨o7, vr7, rfl, hI7, ho7, hk7, hb7, hat7⟩; have HI7 := Aside0.mk hI7; have HB7 := Aside0.mk (HS6.out.bl.trans hb7); clear hI7 hk7 hb7 hat7; obtain ⟨A7, c7, e7, hc7, hC7⟩ := Kd.R_reads ho7; subst e7; clear ho7 hC7)
        | (go_at_call 16; refine (seen_walk w.heap.size g 0 Q.length true vr7 l2 w7 HI7.out).mono ?_; rintro e w8 ⟨rfl, hd8⟩; have HB8 := Aside0.mk (Drawn0.mk hd8).below; have HI8 := Aside0.mk (show IsRd w8 w.heap.size g 0 Q.length true vr7 l2 from ⟨blk_below HI7.out.1 HB8.out, HI7.out.2.1, Kd.R_below HI7.out.2.2 HB8.out⟩); clear hd8)
        | (go_at_call 15; refine (rest_walk w.heap.size g 0 Q.length true vr7 l2 w8 HI8.out (by omega)).mono ?_; rintro e w9 ⟨v9, rfl, ho9, hb9⟩; have HB9 := Aside0.mk ((HB7.out.trans (HB8.out.mono HB7.out.size)).trans (hb9.mono (Nat.le_trans HB7.out.size HB8.out.size))); obtain ⟨A9, c9, e9, hc9, hC9⟩ := Kd.R_reads ho9; subst e9; have HC9 := Aside0.mk hC9; clear ho9 hb9 hC9)
        | (go_at_call 10; (with_reducible refine (halftoneref01_Same.calls A9 c9 l2 A2 c2 l2 true w9 HC9.out hc9 (Kd.C_below HR2.out HB9.out) hc2 (same_lit _)).mono ?_); rintro e w10 ⟨rfl, hd10⟩; have HB10 := Aside0.mk (HB9.out.trans (hd10.below.mono HB9.out.size)); clear hd10))
      go_ret
      exact ⟨rfl, HB10.out⟩
end Go.Proofs.Ytcfdhfgnfakiiaa.Lib
