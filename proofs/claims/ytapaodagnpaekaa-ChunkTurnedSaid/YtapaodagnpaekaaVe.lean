/- chunk: Push at summing. -/
import Derived.Test.YtapaodagnpaekaaVl
namespace Go.Proofs.Ytapaodagnpaekaa.Lib
open Go.RowKit Go.Proofs.YtapaodagnpaekaaW.PrintWords Go.Proofs.YtapaodagnpaekaaW.PrintLast Go.Proofs.YtapaodagnpaekaaW.PrintMore
attribute [local go_sem] max2_mx min2_mn max_two min_two
set_option linter.unusedVariables false
set_option linter.unusedSimpArgs false
set_option maxHeartbeats 4000000 in
set_option maxRecDepth 100000 in
theorem push_s4 {w W1 : World} {n₀ g : Nat} {hv0 hv ov : Value} {r R : RS} {pcs : List Pc} {ps psF : List PS} {k k1 : Nat} {b : List Int} {A1 : Option Addr} {m1 c1 : Nat} (hk : k ≤ 1000000) (hq : runM (k1 + 1) r b ps = some (R, psF)) (hkk : pcs.length + (k1 + 1) ≤ k) (hI : PI w W1 n₀ g hv0 hv ov r pcs ps) (hnil : Nil3 r.st pcs) (hmc1 : m1 ≤ c1) (hm1s : m1 ≤ 1000000) (hbl : b.length = m1) (hCb : ∀ W', Kept w W' (RdS g hv0) → Kd.C (Kd.int .u8) W' A1 m1 b) (hbb : Bytes b) (h1 : r.st = 4)
    (u7 u9 u10 u11 u12 u25 u26 u27 u28 u29 u30 u31 u32 u33 u34 u35 u36 u37 u38 u39 u40 u41 u42 u43 u44 u45 u46 u47 u48 u49 u50 u51 u52 u53 u54 u55 u56 u57 u58 u59 u60 u61 u62 u63 u64 u65 u66 u67 u68 u69 u70 u71 u72 u73 u74 u75 u76 u77 u78 u79 u80 u81 u82 u83 u84 u85 u86 u87 u88 u89 u90 u91 u92 u93 u94 u95 u96 u97 u98 u99 u100 u101 u102 u103 u104 u105 u106 u107 u108 u109 u110 u111 u112 u113 u114 u115 u116 u117 u118 u119 u120 u121 u122 u123 u124 u125 u126 u127 u128 u129 u130 u131 u132 u133 u134 u135 u136 u137 u138 u139 u140 u141 u142 u143 u144 u145 u146 u147 u148 u149 u150 u151 u152 u153 u154 u155 u156 u157 u158 u159 u160 u161 u162 u163 u164 u165 u166 u167 u168 u169 u170 u171 u172 u173 u174 u175 u176 u177 u178 u179 u180 u181 u182 u183 u184 u185 u186 u187 u188 u189 u190 u191 u192 u193 u194 u195 u196 u197 u198 u199 u200 u201 u202 u203 u204 u205 u206 u207 u208 u209 u210 u211 u212 u213 u214 u215 u216 u217 u218 u219 u220 u221 u222 u223 u224 u225 u226 u227 u228 u229 u230 u231 u232 u233 u234 u235 u236 u237 u238 u239 u240 u241 u242 u243 u244 u245 u246 u247 u248 u249 u250 u251 u252 u253 : Value) {K K1 : Act → World → Prop} (hexit : ∀ a w', WX w n₀ g hv0 R psF a w' → K1 a w') (hround : ∀ a w', WR w n₀ g hv0 k (k1 + 1) R psF a w' → K a w') :
    let Q' : Exit → Act → World → Prop := bodyPost Try.prog Try.f10 fun e w' => PushP w n₀ g hv0 R psF e w'
    Code.wp Try.prog body10 (Exit.then K (Exit.inBlock 0 (Exit.then K1 (Exit.noGoto Q')))) ⟨#[.pointer (some ⟨g, 0, none⟩), .slice A1 m1 c1, .pointer (some ⟨w.heap.size, 0, none⟩), undef, .slice none 0 0, .int .i64 0, .pointer (some ⟨w.heap.size + 1, 0, none⟩), u7, .func (.func 20) #[] #[.pointer (some ⟨w.heap.size + 1, 0, none⟩), .pointer (some ⟨w.heap.size, 0, none⟩)], u9, u10, u11, u12, .pointer (some ⟨g, 0, none⟩), .bool false, .pointer (some ⟨g, 0, none⟩), .pointer (some ⟨g, 0, none⟩), .pointer (some ⟨g, 6, none⟩), .int .i64 0, .bool false, undef, undef, undef, undef, .func (.func 20) #[] #[.pointer (some ⟨w.heap.size + 1, 0, none⟩), .pointer (some ⟨w.heap.size, 0, none⟩)], u25, u26, u27, u28, u29, u30, u31, u32, u33, u34, u35, u36, u37, u38, u39, u40, u41, u42, u43, u44, u45, u46, u47, u48, u49, u50, u51, u52, u53, u54, u55, u56, u57, u58, u59, u60, u61, u62, u63, u64, u65, u66, u67, u68, u69, u70, u71, u72, u73, u74, u75, u76, u77, u78, u79, u80, u81, u82, u83, u84, u85, u86, u87, u88, u89, u90, u91, u92, u93, u94, u95, u96, u97, u98, u99, u100, u101, u102, u103, u104, u105, u106, u107, u108, u109, u110, u111, u112, u113, u114, u115, u116, u117, u118, u119, u120, u121, u122, u123, u124, u125, u126, u127, u128, u129, u130, u131, u132, u133, u134, u135, u136, u137, u138, u139, u140, u141, u142, u143, u144, u145, u146, u147, u148, u149, u150, u151, u152, u153, u154, u155, u156, u157, u158, u159, u160, u161, u162, u163, u164, u165, u166, u167, u168, u169, u170, u171, u172, u173, u174, u175, u176, u177, u178, u179, u180, u181, u182, u183, u184, u185, u186, u187, u188, u189, u190, u191, u192, u193, u194, u195, u196, u197, u198, u199, u200, u201, u202, u203, u204, u205, u206, u207, u208, u209, u210, u211, u212, u213, u214, u215, u216, u217, u218, u219, u220, u221, u222, u223, u224, u225, u226, u227, u228, u229, u230, u231, u232, u233, u234, u235, u236, u237, u238, u239, u240, u241, u242, u243, u244, u245, u246, u247, u248, u249, u250, u251, u252, u253, undef, undef, undef, undef, undef], []⟩ W1 := by
  intro Q'
  have HQ := Aside0.mk hq
  have HKK := Aside0.mk hkk
  have HNIL := Aside0.mk hnil
  have HBL := Aside0.mk hbl
  have HCB := Aside0.mk hCb
  have HBB := Aside0.mk hbb
  obtain ⟨Ah, ch, rfl⟩ := Kd.R_slice hI.rd.row
  obtain ⟨hl, hhl⟩ : ∃ hl, r.held.length = hl := ⟨_, rfl⟩
  have hst := hI.ok.st
  have hl8 := hI.ok.hl
  rw [hhl] at hl8 hI
  have HHL := Aside0.mk hhl
  have HI := Aside0.mk hI
  clear hq hkk hI hnil hbl hCb hbb hhl
  obtain ⟨i5, hi5, hz5⟩ := Option.map_eq_some_iff.1 info5
  have hsz5 : i5.size = 1 := by simp only [Prod.mk.injEq] at hz5; exact hz5.2.1
  conv => arg 2; whnf
  have h0 : r.st ≠ 0 := by omega
  have hb0 : (r.st == 0) = false := beq_eq_false_iff_ne.mpr h0
  have hb1 : (r.st == 1) = false := beq_eq_false_iff_ne.mpr (by omega)
  have hb2 : (r.st == 2) = false := beq_eq_false_iff_ne.mpr (by omega)
  have hb3 : (r.st == 3) = false := beq_eq_false_iff_ne.mpr (by omega)
  have hb4' : (r.st == 4) = true := beq_iff_eq.mpr h1
  obtain ⟨kk, hkk⟩ : ∃ kk, min (4 - hl) m1 = kk := ⟨_, rfl⟩
  have HKM := Aside0.mk hkk
  have HHO := Aside0.mk (pi_hold HI.out HHL.out h0 hmc1 hm1s HBL.out HCB.out HBB.out hkk)
  have hkm : kk ≤ m1 := by omega
  clear hkk
  have hx2 := blk_cell HI.out.x2 0
  have hg0 := blk_cell HI.out.rd.blk 0
  by_cases h4 : hl + kk = 4
  · skip
    have hb4 : ((hl : Int) + (kk : Int) == 4) = true := beq_iff_eq.mpr (by omega)
    go_wp2_with fail
    refine HHO.out.mono ?_
    rintro e w3 ⟨hv3, A3, rfl, hI3, hC3⟩
    have HI3 := Aside0.mk hI3
    have HC3 := Aside0.mk hC3
    clear hI3 hC3
    have hL4 := pi_size 0 HHL.out HBL.out HKM.out h4
    obtain ⟨A4, c4, rfl, hR4⟩ := row_form hL4 HI3.out.rd.row
    have HL4 := Aside0.mk hL4
    have HB4 := Aside0.mk (show Bytes (r.held ++ b.take kk) from HI3.out.ok.hb)
    have HR4 := Aside0.mk (Kd.R_reads' hR4)
    clear hR4 hL4 hg0 hx2
    have HBR := Aside0.mk (show 0 ≤ beN (r.held ++ b.take kk) ∧ beN (r.held ++ b.take kk) ≤ 4294967295 from by have := beN_range HB4.out HL4.out; omega)
    obtain ⟨sz, hsz⟩ : ∃ sz, beN (r.held ++ b.take kk) = sz := ⟨_, rfl⟩
    have HSZ := Aside0.mk hsz
    have HBR2 := Aside0.mk (show 0 ≤ sz ∧ sz ≤ 4294967295 from hsz ▸ HBR.out)
    have HBIG := Aside0.mk (show ∀ W : World, Below w3.heap.size w3 W → Calls Try.prog 22 #[.slice A4 4 c4, .int .i64 0, .int .i64 4] W fun e w' => e = .returned (.tuple #[.int .i64 sz, .int .i64 0]) ∧ Drawn0 W w' from fun W hW => hsz ▸ big_any A4 4 c4 _ W HB4.out HL4.out rfl (Kd.C_below (HL4.out ▸ HR4.out.2.2) hW) HR4.out.2.1)
    clear hsz
    have hx2 := blk_cell HI3.out.x2 0
    have hg1 := blk_cell HI3.out.rd.blk 1
    go_wp2_with fail
    refine (HBIG.out _ (Below.refl _ _)).mono ?_
    rintro e w5 ⟨rfl, q5, rfl⟩
    have HI5 := Aside0.mk (HI3.out.drewN q5)
    generalize w3.drewN q5 = W5 at HI5 ⊢
    clear hx2 hg1
    have hx2 := blk_cell HI5.out.x2 0
    have hg5 := blk_cell HI5.out.rd.blk 5
    have hg6 := blk_cell HI5.out.rd.blk 6
    have hf6 := blk_frozen HI5.out.rd.blk 6
    have hsz0 := HBR2.out.1
    have hsz1 := HBR2.out.2
    by_cases heq : sz = r.sum
    · have hne : (sz != r.sum) = false := by rw [heq]; simp
      have HEQ := Aside0.mk heq
      clear heq
      have HPN := Aside0.mk (show pcs.length ≤ 1000000 from by have := HKK.out; omega)
      have HNOW := Aside0.mk (HI5.out.now HPN.out)
      go_wp2_with fail
      refine HNOW.out.mono ?_
      rintro e W12 ⟨go, co, p, rfl, hlen, hI12⟩
      have HLEN := Aside0.mk hlen
      have HI12 := Aside0.mk hI12
      have hpc := pc_at HI12.out.out p (by omega)
      have hb3 := hpc.1.2.2.2.2
      have hfz := hpc.2 4
      clear hI12 hpc hlen
      go_wp2
      have HI13 := Aside0.mk (HI12.out.ending HLEN.out)
      generalize W12.setCell ⟨go, p * 5 + 4, none⟩ (.bool true) = W13 at HI13 ⊢
      clear hb3 hfz hx2 hg5 hg6 hf6
      have hx2 := blk_cell HI13.out.x2 0
      have hg0 := blk_cell HI13.out.rd.blk 0
      have hg1 := blk_cell HI13.out.rd.blk 1
      have hf0 := blk_frozen HI13.out.rd.blk 0
      have hf1 := blk_frozen HI13.out.rd.blk 1
      go_region
      all_goals go_wp2
      refine Exists.intro k1 ?_
      (repeat apply Exists.intro)
      refine ⟨Nat.lt_succ_self _, ?_, ?_⟩
      · unfold Frm
        (repeat apply Exists.intro)
        rfl
      exact at_4 HQ.out HKK.out HI13.out HLEN.out (step_4 HHL.out (by rw [HBL.out]; exact HKM.out) h1 h4 HSZ.out HEQ.out) hkm hmc1 hm1s HBL.out HC3.out HBB.out
    · have hne : (sz != r.sum) = true := bne_iff_ne.2 heq
      go_wp2
      obtain ⟨rfl, rfl⟩ := run_stop (step_4x HHL.out (by rw [HBL.out]; exact HKM.out) h1 h4 HSZ.out heq) HQ.out
      (repeat apply Exists.intro)
      refine ⟨HI5.out.set6 4, ?_⟩
      unfold Frm
      (repeat apply Exists.intro)
      rfl
  · skip
    have hb4 : ((hl : Int) + (kk : Int) == 4) = false := beq_eq_false_iff_ne.mpr (by omega)
    go_wp2_with (go_at_call 21; refine HHO.out.mono ?_; rintro e w3 ⟨hv3, A3, rfl, hI3, hC3⟩; have HI3 := Aside0.mk hI3; have HC3 := Aside0.mk hC3; clear hI3 hC3)
    obtain ⟨rfl, rfl⟩ := run_stop (step_h HHL.out (by rw [HBL.out]; exact HKM.out) h0 (by omega) h4) HQ.out
    (repeat apply Exists.intro)
    refine ⟨HI3.out, ?_⟩
    unfold Frm
    (repeat apply Exists.intro)
    rfl
end Go.Proofs.Ytapaodagnpaekaa.Lib
