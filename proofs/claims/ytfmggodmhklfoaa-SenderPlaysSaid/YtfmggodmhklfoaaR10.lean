/- SenderPlays: the walk. -/
import Derived.Test.YtfmggodmhklfoaaR9
namespace Go.Proofs.Ytfmggodmhklfoaa.Lib
open Go.RowKit Go.Shelf Go.Proofs.YtfmggodmhklfoaaW.PrintWords Go.Proofs.YtfmggodmhklfoaaW.PrintLast Go.Proofs.YtfmggodmhklfoaaW.PrintMore
set_option linter.unusedVariables false
set_option linter.unusedSimpArgs false
/-- the sender and the document's, side by side -/
structure Both (w W : World) (g gr : Nat) (c : Cfg) (n b : Nat) (nw : Int) (vs vr : Value) (its : List S54) (xr : List S57) : Prop where
  st : St w W g c b nw vs its
  rf : IsRf W w.heap.size gr c nw vr xr
  rel : Rel n b its xr
theorem Both.ext {w W W1 : World} {g gr n b : Nat} {c : Cfg} {nw : Int} {vs vr : Value} {its : List S54} {xr : List S57} (h : Both w W g gr c n b nw vs vr its xr) (hb : Below W.heap.size W W1) : Both w W1 g gr c n b nw vs vr its xr :=
  ⟨h.st.ext hb, h.rf.ext hb, h.rel⟩
/-- a tick of the sender, the document's not yet -/
theorem Both.tick1 {w W : World} {g gr n b : Nat} {c : Cfg} {nw : Int} {vs vr : Value} {its : List S54} {xr : List S57} (h : Both w W g gr c n b nw vs vr its xr) (hn : nw ≤ 1000000) {P : List S54 × List Int} (hP : tickL c b nw its = P) {L : Nat} (hL : P.2.length = L) :
    Calls Try.prog 15 #[.pointer (some ⟨g, 0, none⟩)] W fun e W' => ∃ A cp v1, e = .returned (.slice A L cp) ∧ L ≤ cp ∧ St w W' g c b (nw + 1) v1 P.1 ∧ IsRf W' w.heap.size gr c nw vr xr ∧ Kd.R (Kd.int .i64) 3 W' W.heap.size (fun _ => True) (.slice A L cp) P.2 := by
  refine (h.st.tick hn hP hL).mono ?_
  rintro e W' ⟨A, cp, v1, rfl, hcp, hS, ho, hLf⟩
  exact ⟨A, cp, v1, rfl, hcp, hS, h.rf.keep h.st.sd hLf, ho⟩
/-- the document's -/
theorem Both.tick2 {w W : World} {g gr n b wd B : Nat} {c : Cfg} {nw : Int} {v1 vr v : Value} {its : List S54} {xr : List S57} {P : List S54 × List Int} (hS : St w W g c b (nw + 1) v1 P.1) (hRf : IsRf W w.heap.size gr c nw vr xr) (hRel : Rel n b its xr) (hG : Good c b nw its) (ho : Kd.R (Kd.int .i64) 3 W B (fun _ => True) v P.2) (hP : tickL c b nw its = P) (hn : nw ≤ 1000000) (hcn : c.n = n) (hcw : c.wd = wd) (hn3 : n ≤ 300) {L : Nat} (hL : P.2.length = L) :
    Calls Try.prog 16 #[.pointer (some ⟨gr, 0, none⟩)] W fun e W' => ∃ A cp x2, e = .returned (.slice A L cp) ∧ L ≤ cp ∧ Both w W' g gr c n b (nw + 1) v1 vr P.1 x2 ∧ Kd.R (Kd.int .i64) 3 W' B (fun _ => True) v P.2 ∧ Kd.C (Kd.int .i64) W' A L P.2 := by
  refine (rtick_walk n b wd W hRf hRel hG hS.cf hcn hcw hn3 hn hS.bl.size).mono ?_
  rw [hP]
  rintro e W' ⟨vo, x2, rfl, hI, hR2, ho2, hLf⟩
  obtain ⟨A, cp, rfl, hcp, hC⟩ := Kd.R_reads ho2
  rw [hL] at hcp hC ⊢
  exact ⟨A, cp, x2, rfl, hcp, ⟨⟨hS.sd.keep hRf hLf, hS.bl.trans hLf.below, hS.ok, hS.cf⟩, hI, hR2⟩, R_leftR ho hRf hLf, hC⟩
/-- an ack of the sender, the document's not yet -/
theorem Both.ack1 {w W : World} {g gr n b : Nat} {c : Cfg} {nw : Int} {vs vr : Value} {its : List S54} {xr : List S57} (h : Both w W g gr c n b nw vs vr its xr) (next : Int) {A0 : Option Addr} {c0 : Nat} {rs : List (Int × Int)} (hr : Kd.C k52 w A0 rs.length rs) (hok : ∀ r ∈ rs, -9223372036854775808 ≤ r.1 ∧ r.1 ≤ 9223372036854775807) {m : Nat} (hm : rs.length = m) {Q : Int × List S54} (hQ : ackL b nw its next rs = Q) :
    Calls Try.prog 12 #[.pointer (some ⟨g, 0, none⟩), .int .i64 next, .slice A0 m c0] W fun e W' => ∃ v1, e = .returned (.tuple #[]) ∧ St w W' g c Q.1 nw v1 Q.2 ∧ IsRf W' w.heap.size gr c nw vr xr ∧ ∀ (k : Nat) (cells : Array Value), W.heap[k]? = some (Obj.cells cells 34 (0, 0)) → W'.heap[k]? = some (Obj.cells cells 34 (0, 0)) := by
  refine (h.st.ack next hr hok hm hQ).mono ?_
  rintro e W' ⟨v1, rfl, hS, hLf⟩
  refine ⟨v1, rfl, hS, h.rf.keep h.st.sd hLf, fun k cells hk => hLf.keep.blk hk ?_ (Kd.Q_ne h.st.sd.row hk (by decide))⟩
  rintro rfl
  have h1 := h.st.sd.blk
  rw [hk] at h1
  simp at h1
theorem Both.ack2 {w W : World} {g gr n b wd : Nat} {c : Cfg} {nw : Int} {v1 vr : Value} {its : List S54} {xr : List S57} (next : Int) {A0 : Option Addr} {c0 : Nat} {rs : List (Int × Int)} {Q : Int × List S54} (hS : St w W g c Q.1 nw v1 Q.2) (hRf : IsRf W w.heap.size gr c nw vr xr) (hRel : Rel n b its xr) (hG : Good c b nw its) (hr : Kd.C k52 w A0 rs.length rs) (hm2 : rs.length ≤ 8796093022208) {m : Nat} (hm : rs.length = m) (hQ : ackL b nw its next rs = Q) (hcn : c.n = n) (hcw : c.wd = wd) (hn3 : n ≤ 300) :
    Calls Try.prog 13 #[.pointer (some ⟨gr, 0, none⟩), .int .i64 next, .slice A0 m c0] W fun e W' => ∃ (b' : Nat) (x2 : List S57), e = .returned (.tuple #[]) ∧ Both w W' g gr c n b' nw v1 vr Q.2 x2 := by
  subst hm
  refine (rack_walk n b wd next A0 c0 rs w W hr hS.bl hRf hRel hG hS.cf hcn hcw hn3 hm2).mono ?_
  rw [hQ]
  rintro e W' ⟨rfl, b', x2, hb, hI, hR2, hLf⟩
  refine ⟨b', x2, rfl, ⟨?_, hI, hR2⟩⟩
  rw [hb]
  exact ⟨hS.sd.keep hRf hLf, hS.bl.trans hLf.below, hS.ok, hS.cf⟩
/-- the calls behind each act -/
theorem Both.base {w W : World} {g gr n b : Nat} {c : Cfg} {nw : Int} {vs vr : Value} {its : List S54} {xr : List S57} (h : Both w W g gr c n b nw vs vr its xr) :
    Calls Try.prog 17 #[.pointer (some ⟨g, 0, none⟩)] W fun e w' => e = .returned (.int .i64 b) ∧ Drawn0 W w' := base_walk _ h.st.sd
theorem Both.rbase {w W : World} {g gr n b : Nat} {c : Cfg} {nw : Int} {vs vr : Value} {its : List S54} {xr : List S57} (h : Both w W g gr c n b nw vs vr its xr) (hn : n ≤ 300) :
    Calls Try.prog 18 #[.pointer (some ⟨gr, 0, none⟩)] W fun e w' => e = .returned (.int .i64 b) ∧ Drawn0 W w' :=
  rbase_walk b W h.rf (by have := h.rel.len; omega) (by have := h.rel.len; have := h.rel.fit; omega) h.rel.lo (h.rel.at_ h.st.ok.head)
theorem Both.flight {w W : World} {g gr n b : Nat} {c : Cfg} {nw : Int} {vs vr : Value} {its : List S54} {xr : List S57} (h : Both w W g gr c n b nw vs vr its xr) (hn : n ≤ 300) {F : Nat} (hF : (opensTo its its.length).length = F) :
    Calls Try.prog 19 #[.pointer (some ⟨g, 0, none⟩)] W fun e W' => e = .returned (.int .i64 F) ∧ Below W.heap.size W W' := by
  subst hF
  exact flight_walk _ h.st.sd (by have := h.rel.fit; omega)
theorem Both.rflight {w W : World} {g gr n b : Nat} {c : Cfg} {nw : Int} {vs vr : Value} {its : List S54} {xr : List S57} (h : Both w W g gr c n b nw vs vr its xr) (hn : n ≤ 300) {F : Nat} (hF : (opensTo its its.length).length = F) :
    Calls Try.prog 20 #[.pointer (some ⟨gr, 0, none⟩)] W fun e W' => e = .returned (.int .i64 F) ∧ Below W.heap.size W W' := by
  have h1 := rflight_walk W h.rf (by have := h.rel.len; omega)
  have h2 := h.rel.fly
  rw [h.rel.len, h2, hF] at h1
  exact h1
theorem Both.done {w W : World} {g gr n b : Nat} {c : Cfg} {nw : Int} {vs vr : Value} {its : List S54} {xr : List S57} (h : Both w W g gr c n b nw vs vr its xr) (hcn : c.n = n) {d : Bool} (hd : ((b : Int) == (n : Int)) = d) :
    Calls Try.prog 21 #[.pointer (some ⟨g, 0, none⟩)] W fun e w' => e = .returned (.bool d) ∧ Drawn0 W w' := by
  have h1 := done_walk W h.st.sd
  rw [hcn, hd] at h1
  exact h1
theorem Both.drewN {w W : World} {g gr n b : Nat} {c : Cfg} {nw : Int} {vs vr : Value} {its : List S54} {xr : List S57} (h : Both w W g gr c n b nw vs vr its xr) (m : Nat) : Both w (W.drewN m) g gr c n b nw vs vr its xr := h.ext (pw_below_drewN (Below.refl _ _) m)
theorem Both.alloc {w W : World} {g gr n b : Nat} {c : Cfg} {nw : Int} {vs vr : Value} {its : List S54} {xr : List S57} (h : Both w W g gr c n b nw vs vr its xr) (o : Obj) : Both w (W.alloc o) g gr c n b nw vs vr its xr := h.ext ((Below.refl _ _).alloc (Nat.le_refl _) o)
set_option maxRecDepth 100000 in
set_option maxHeartbeats 2000000 in
theorem plays_row (n0 wd0 fs ms : Int) (A4 : Option Addr) (c4 : Nat) (xs : List Actd) (w : World) (hr : Kd.C k34 w A4 xs.length xs) (hc4 : xs.length ≤ c4) (hok : ∀ x ∈ xs, ActOk x) :
    Calls Try.prog 3 #[.int .i64 n0, .int .i64 wd0, .int .i64 fs, .int .i64 ms, .slice A4 xs.length c4] w fun e w' => e = .returned (.bool true) ∧ Below w.heap.size w w' := by
  have HF := Aside0.mk (show ∀ W : World, Below w.heap.size w W → Calls Try.prog 11 #[.slice A4 xs.length c4] W fun e w' => FewPost xs.length W e w' from fun W hW => few_walk A4 c4 xs W W (Kd.C_below hr hW) (Below.refl _ _) hok)
  have HR := Aside0.mk hr
  have HOK := Aside0.mk hok
  obtain ⟨l, hl⟩ : ∃ l, xs.length = l := ⟨_, rfl⟩
  rw [hl] at HR HF ⊢
  have HN := Aside0.mk hl
  clear hr hok hl hc4
  by_cases h300 : 300 < n0
  · have hd := decide_eq_true h300
    go_enter Try.func3, Try.ntmps3
    go_wp2_with (go_at_call 8; refine (halftonelaw23_fixed.calls true _ rfl).mono ?_; rintro e w1 ⟨rfl, hb1⟩)
    go_ret
    exact ⟨rfl, hb1⟩
  have hd := decide_eq_false h300
  by_cases hcf : CfgOk n0 wd0 fs ms
  · have HC := Aside0.mk hcf
    obtain ⟨h1, h2, h3, h4, h5, h6, h7⟩ := hcf
    obtain ⟨n, rfl⟩ : ∃ n : Nat, n0 = n := ⟨n0.toNat, by omega⟩
    obtain ⟨wd, rfl⟩ : ∃ wd : Nat, wd0 = wd := ⟨wd0.toNat, by omega⟩
    have hn300 : n ≤ 300 := by omega
    clear h300
    go_enter Try.func3, Try.ntmps3
    go_wp2_with (first
      | (go_at_call 8; refine (halftonelaw23_fixed.calls true _ rfl).mono ?_; rintro e w1 ⟨rfl, hb1⟩; have HB1 := Aside0.mk hb1; clear hb1)
      | (go_at_call 9; refine (new_walk n wd fs ms w1 HC.out).mono ?_; rintro e w2 ⟨g, rfl, hI2, hb2, hg2⟩; have HS2 := Aside0.mk (show St w w2 g ⟨n, wd, fs, ms⟩ 0 0 (.slice none 0 0) [] from ⟨hI2.low HB1.out.size, HB1.out.trans (hb2.mono HB1.out.size), Good.new HC.out, HC.out⟩); clear hI2 hb2 hg2)
      | (go_at_call 10; refine (rnew_walk w.heap.size n wd fs ms w2 HC.out (by omega) HS2.out.bl.size).mono ?_; rintro e w3 ⟨gr, vr, rfl, hI3, hb3⟩; have HB3 := Aside0.mk (show Both w w3 g gr ⟨n, wd, fs, ms⟩ n 0 0 _ vr [] (List.replicate n z57) from ⟨HS2.out.ext hb3, by simpa using hI3, Rel.new n⟩); clear hI3 hb3)
      | (go_at_call 11; refine (HF.out _ HB3.out.st.bl).mono ?_; rintro e w4 ⟨b, rfl, hb, hb4⟩; have HB4 := Aside0.mk (HB3.out.ext hb4); clear hb4; rcases b with _ | _))
    · go_ret
      exact ⟨rfl, HB4.out.st.bl⟩
    have hl201 : l ≤ 201 := by simpa using hb
    clear hb HF HB1 HS2 HB3
    go_loopw [56] (fun i wr => ∃ (k b : Nat) (nw : Int) (vs vr : Value) (its : List S54) (xr : List S57), i = .int .i64 k ∧ k ≤ l ∧ Aside0 (nw ≤ k) ∧ Aside0 (Both w wr g gr ⟨n, wd, fs, ms⟩ n b nw vs vr its xr)) (fun i _ => l - (intOf i).toNat)
    case atStart => exact ⟨0, _, _, _, _, _, _, rfl, Nat.zero_le _, ⟨by simp⟩, HB4⟩
    case round =>
      clear HB4
      obtain ⟨k, b, nw, vs, vr, its, xr, rfl, hk, HNW, HS⟩ := hrel
      obtain ⟨wo, rfl⟩ : ∃ wo : World, wo = wr := ⟨_, rfl⟩
      by_cases hlt : k < l
      · obtain ⟨ad, Ar, cr, rfl, hx0, hx1, hx2, hcr, hC⟩ := k34_at HR.out k hlt
        have ho : ActOk (xs.getD k z34) := HOK.out _ (by rw [List.getD_eq_getElem?_getD, List.getElem?_eq_getElem (by rw [HN.out]; omega)]; simp)
        obtain ⟨⟨isA, next, rs⟩, hx⟩ : ∃ x, xs.getD k z34 = x := ⟨_, rfl⟩
        rw [hx] at hx0 hx1 hx2 hcr hC ho
        simp only at hx0 hx1 hx2 hcr hC
        obtain ⟨m, hm⟩ : ∃ m, rs.length = m := ⟨_, rfl⟩
        have HM := Aside0.mk hm
        rw [hm] at hx2 hcr
        replace hx0 := pw_cell_below HS.out.st.bl hx0
        replace hx1 := pw_cell_below HS.out.st.bl hx1
        replace hx2 := pw_cell_below HS.out.st.bl hx2
        have HCR := Aside0.mk hC
        have HO := Aside0.mk ho
        clear hx hm hC ho
        have hbs : b ≤ n := by have := HS.out.rel.fit; omega
        rcases isA with _ | _
        · obtain ⟨P, hP⟩ : ∃ P, tickL ⟨n, wd, fs, ms⟩ b nw its = P := ⟨_, rfl⟩
          obtain ⟨L, hL⟩ : ∃ L, P.2.length = L := ⟨_, rfl⟩
          have ho := (outs_order HS.out.st.ok).1
          rw [hP, hL] at ho
          have hLm : L ≤ 64 := by have h : (L : Int) ≤ wd := ho; omega
          obtain ⟨F, hF⟩ : ∃ F, (opensTo P.1 P.1.length).length = F := ⟨_, rfl⟩
          have HFF := Aside0.mk hF
          obtain ⟨d, hd0⟩ : ∃ d, ((b : Int) == (n : Int)) = d := ⟨_, rfl⟩
          have HD := Aside0.mk hd0
          have HLL := Aside0.mk hL
          have HTK := Aside0.mk (show ∀ W, Both w W g gr ⟨n, wd, fs, ms⟩ n b nw vs vr its xr → _ from fun W h => h.tick1 (by have := HNW.out; omega) hP hL)
          have HTK2 := Aside0.mk (show ∀ W v1 B v, St w W g ⟨n, wd, fs, ms⟩ b (nw + 1) v1 P.1 → IsRf W w.heap.size gr ⟨n, wd, fs, ms⟩ nw vr xr → Kd.R (Kd.int .i64) 3 W B (fun _ => True) v P.2 → _ from fun W v1 B v hS hRf ho => Both.tick2 (wd := wd) hS hRf HS.out.rel HS.out.st.ok ho hP (by have := HNW.out; omega) rfl rfl hn300 hL)
          have e1 : ((b : Int) != (b : Int)) = false := by simp
          have e2 : ((F : Int) != (F : Int)) = false := by simp
          have e3 : (d != d) = false := by simp
          clear ho hP hL hF
          rcases d with _ | _
          all_goals
            go_wp2_with (first
              | (go_at_call 15; go_loud (refine (HTK.out _ (HS.out.alloc _)).mono ?_; rintro e w5 ⟨A, cp, v1, rfl, hcp, hS5, hRf5, hR5⟩; have HS5 := Aside0.mk hS5; have HRf5 := Aside0.mk hRf5; have HR5 := Aside0.mk hR5; clear hS5 hRf5 hR5))
              | (go_at_call 16; go_loud (refine (HTK2.out _ _ _ _ HS5.out HRf5.out HR5.out).mono ?_; rintro e w6 ⟨A2, cp2, x2, rfl, hcp2, hB6, hR6, hC6⟩; have HB6 := Aside0.mk hB6; have HC6 := Aside0.mk (Kd.R_reads' hR6).2.2; have HC62 := Aside0.mk hC6; clear hB6 hR6 hC6))
              | (go_at_call 14; go_loud (refine (same_n _ P.2 L HLL.out (by omega) _ _ _ _ (by have h := HC6.out; rw [HLL.out] at h; exact h) hcp HC62.out hcp2).mono ?_; rintro e w7 ⟨rfl, hd7⟩; have HX := Aside0.mk (HB6.out.ext hd7.below); clear hd7))
              | (go_at_call 17; refine (HX.out.base).mono ?_; rintro e w8 ⟨rfl, hd8⟩; have HY := Aside0.mk (HX.out.ext hd8.below); clear hd8)
              | (go_at_call 18; refine (HZ.out.rbase hn300).mono ?_; rintro e w13 ⟨rfl, hd13⟩; have HE := Aside0.mk (HZ.out.ext hd13.below); clear hd13)
              | (go_at_call 18; refine (HY.out.rbase hn300).mono ?_; rintro e w9 ⟨rfl, hd9⟩; have HY2 := Aside0.mk (HY.out.ext hd9.below); clear hd9)
              | (go_at_call 19; refine (HY2.out.flight hn300 HFF.out).mono ?_; rintro e w10 ⟨rfl, hb10⟩; have HY3 := Aside0.mk (HY2.out.ext hb10); clear hb10)
              | (go_at_call 20; refine (HY3.out.rflight hn300 HFF.out).mono ?_; rintro e w11 ⟨rfl, hb11⟩; have HY4 := Aside0.mk (HY3.out.ext hb11); clear hb11)
              | (go_at_call 21; refine (HY4.out.done rfl HD.out).mono ?_; rintro e w12 ⟨rfl, hd12⟩; have HZ := Aside0.mk (HY4.out.ext hd12.below); clear hd12))
            exact ⟨⟨k + 1, b, nw + 1, _, _, _, _, by push_cast; rfl, by omega, ⟨by have := HNW.out; push_cast; omega⟩, HE⟩, by simp [intOf]; omega⟩
        · obtain ⟨Q, hQ⟩ : ∃ Q, ackL b nw its next rs = Q := ⟨_, rfl⟩
          have HAK := Aside0.mk (show ∀ W, Both w W g gr ⟨n, wd, fs, ms⟩ n b nw vs vr its xr → _ from fun W h => h.ack1 next HCR.out HO.out.2.2.2.2 HM.out hQ (c0 := cr))
          have HAK2 := Aside0.mk (show ∀ W v1, St w W g ⟨n, wd, fs, ms⟩ Q.1 nw v1 Q.2 → IsRf W w.heap.size gr ⟨n, wd, fs, ms⟩ nw vr xr → _ from fun W v1 hS hRf => Both.ack2 (wd := wd) next hS hRf HS.out.rel HS.out.st.ok HCR.out (by have := HO.out.2.2.2.1; omega) HM.out hQ rfl rfl hn300 (c0 := cr))
          clear hQ
          go_wp2_with (first
            | (go_at_call 12; go_loud (refine (HAK.out _ (HS.out.alloc _)).mono ?_; rintro e w5 ⟨v1, rfl, hS5, hRf5, hK5⟩; have HS5 := Aside0.mk hS5; have HRf5 := Aside0.mk hRf5; have hk5 := hK5 _ _ (heap_alloc_new wo _); have hy1 := blk_cell hk5 1; have hy2 := blk_cell hk5 2; clear hS5 hRf5 hK5 hk5))
            | (go_at_call 13; go_loud (refine (HAK2.out _ _ HS5.out HRf5.out).mono ?_; rintro e w6 ⟨b', x2, rfl, hB6⟩; have HX := Aside0.mk hB6; clear hB6; obtain ⟨F, hF⟩ : ∃ F, (opensTo Q.2 Q.2.length).length = F := ⟨_, rfl⟩; have HFF := Aside0.mk hF; clear hF; have e1 : ((b' : Int) != (b' : Int)) = false := (by simp); have e2 : ((F : Int) != (F : Int)) = false := (by simp); obtain ⟨d, hd0⟩ : ∃ d, ((b' : Int) == (n : Int)) = d := ⟨_, rfl⟩; have HD := Aside0.mk hd0; have e3 : (d != d) = false := (by simp); rcases d with _ | _))
            | (go_at_call 17; refine (HX.out.base).mono ?_; rintro e w8 ⟨rfl, hd8⟩; have HY := Aside0.mk (HX.out.ext hd8.below); clear hd8)
            | (go_at_call 18; refine (HZ.out.rbase hn300).mono ?_; rintro e w13 ⟨rfl, hd13⟩; have HE := Aside0.mk (HZ.out.ext hd13.below); clear hd13)
            | (go_at_call 18; refine (HY.out.rbase hn300).mono ?_; rintro e w9 ⟨rfl, hd9⟩; have HY2 := Aside0.mk (HY.out.ext hd9.below); clear hd9)
            | (go_at_call 19; refine (HY2.out.flight hn300 HFF.out).mono ?_; rintro e w10 ⟨rfl, hb10⟩; have HY3 := Aside0.mk (HY2.out.ext hb10); clear hb10)
            | (go_at_call 20; refine (HY3.out.rflight hn300 HFF.out).mono ?_; rintro e w11 ⟨rfl, hb11⟩; have HY4 := Aside0.mk (HY3.out.ext hb11); clear hb11)
            | (go_at_call 21; refine (HY4.out.done rfl HD.out).mono ?_; rintro e w12 ⟨rfl, hd12⟩; have HZ := Aside0.mk (HY4.out.ext hd12.below); clear hd12))
          all_goals exact ⟨⟨k + 1, b', nw, _, _, _, _, by push_cast; rfl, by omega, ⟨by have := HNW.out; push_cast; omega⟩, HE⟩, by simp [intOf]; omega⟩
      · go_wp2
        go_ret
        exact ⟨rfl, HS.out.st.bl⟩
  · have HC := Aside0.mk hcf
    clear hcf
    go_enter Try.func3, Try.ntmps3
    go_wp2_with (first
      | (go_at_call 8; refine (halftonelaw23_fixed.calls true _ rfl).mono ?_; rintro e w1 ⟨rfl, hb1⟩)
      | (go_at_call 9; refine (new_bad n0 wd0 fs ms _ HC.out).mono ?_; rintro e w2 ⟨rfl, rfl⟩)
      | (go_at_call 10; refine (rnew_bad n0 wd0 fs ms _ HC.out).mono ?_; rintro e w3 ⟨rfl, rfl⟩))
    go_ret
    exact ⟨rfl, hb1⟩
end Go.Proofs.Ytfmggodmhklfoaa.Lib
