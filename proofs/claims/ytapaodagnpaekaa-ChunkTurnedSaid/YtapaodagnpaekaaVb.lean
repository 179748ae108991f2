/- chunk: Push at sizing. -/
import Derived.Test.YtapaodagnpaekaaV9
namespace Go.Proofs.Ytapaodagnpaekaa.Lib
open Go.RowKit Go.Proofs.YtapaodagnpaekaaW.PrintWords Go.Proofs.YtapaodagnpaekaaW.PrintLast Go.Proofs.YtapaodagnpaekaaW.PrintMore
attribute [local go_sem] max2_mx min2_mn max_two min_two
set_option linter.unusedVariables false
set_option linter.unusedSimpArgs false
theorem step_1l_ {r : RS} {b : List Int} {ps : List PS} {hl kk : Nat} {sz : Int} (hsz : beN (r.held ++ b.take kk) = sz) (hhl : r.held.length = hl) (hkk : min (4 - hl) b.length = kk) (h1 : r.st = 1) (h4 : hl + kk = 4) (hx : 1048576 < sz) : stepM r b ps = (false, { r with held := r.held ++ b.take kk, size := sz, e := 9 }, b.drop kk, ps) := by
  subst hsz
  exact step_1l hhl hkk h1 h4 hx
theorem at_1 {w W : World} {n₀ g : Nat} {hv0 hv ov : Value} {r R : RS} {pcs : List Pc} {ps psF : List PS} {k k1 : Nat} {b held' : List Int} {A' : Option Addr} {m c kk : Nat} {sz : Int} (hsz : beN held' = sz) (hq : runM (k1 + 1) r b ps = some (R, psF)) (hkk : pcs.length + (k1 + 1) ≤ k) (hI : PI w W n₀ g hv0 hv ov { { r with held := held' } with size := sz } pcs ps) (hn : Nil3 r.st pcs) (hst : stepM r b ps = (true, { r with held := [], size := beN held', st := 2 }, b.drop kk, ps)) (hkm : kk ≤ m) (hmc : m ≤ c) (hms : m ≤ 1000000) (hbl : b.length = m) (hCb : ∀ W', Kept w W' (RdS g hv0) → Kd.C (Kd.int .u8) W' A' (m - kk) (b.drop kk)) (hbb : Bytes b) (h1 : r.st = 1) :
    AtR w ((W.setCell ⟨g, 1, none⟩ (.slice none 0 0)).setCell ⟨g, 0, none⟩ (.int .i64 2)).drew n₀ g hv0 k k1 R psF (b.drop kk) A' (m - kk) (c - kk) := by
  subst hsz
  exact ⟨_, _, _, _, _, run_go hst hq, by omega, (hI.set1.set0 2 (by omega) (by simp)).drew, fun p hp => ⟨fun _ => (hn p hp).1 (by omega), fun h => absurd h (show (2 : Int) ≠ 3 by decide)⟩, by omega, by omega, by rw [List.length_drop, hbl], hCb, fun x hx => hbb x (List.mem_of_mem_drop hx)⟩
set_option maxHeartbeats 4000000 in
set_option maxRecDepth 100000 in
theorem push_s1 {w W1 : World} {n₀ g : Nat} {hv0 hv ov : Value} {r R : RS} {pcs : List Pc} {ps psF : List PS} {k k1 : Nat} {b : List Int} {A1 : Option Addr} {m1 c1 : Nat} (hk : k ≤ 1000000) (hq : runM (k1 + 1) r b ps = some (R, psF)) (hkk : pcs.length + (k1 + 1) ≤ k) (hI : PI w W1 n₀ g hv0 hv ov r pcs ps) (hnil : Nil3 r.st pcs) (hmc1 : m1 ≤ c1) (hm1s : m1 ≤ 1000000) (hbl : b.length = m1) (hCb : ∀ W', Kept w W' (RdS g hv0) → Kd.C (Kd.int .u8) W' A1 m1 b) (hbb : Bytes b) (h1 : r.st = 1)
    (u7 u9 u10 u11 u12 u25 u26 u27 u28 u29 u30 u31 u32 u33 u34 u35 u36 u37 u38 u39 u40 u41 u42 u43 u44 u45 u46 u47 u48 u49 u50 u51 u52 u53 u54 u55 u56 u57 u58 u59 u60 u61 u62 u63 u64 u65 u66 u67 u68 u69 u70 u71 u72 u73 u74 u75 u76 u77 u78 u79 u80 u81 u82 u83 u84 u85 u86 u87 u88 u89 u90 u91 u92 u93 u94 u95 u96 u97 u98 u99 u100 u101 u102 u103 u104 u105 u106 u107 u108 u109 u110 u111 u112 u113 u114 u115 u116 u117 u118 u119 u120 u121 u122 u123 u124 u125 u126 u127 u128 u129 u130 u131 u132 u133 u134 u135 u136 u137 u138 u139 u140 u141 u142 u143 u144 u145 u146 u147 u148 u149 u150 u151 u152 u153 u154 u155 u156 u157 u158 u159 u160 u161 u162 u163 u164 u165 u166 u167 u168 u169 u170 u171 u172 u173 u174 u175 u176 u177 u178 u179 u180 u181 u182 u183 u184 u185 u186 u187 u188 u189 u190 u191 u192 u193 u194 u195 u196 u197 u198 u199 u200 u201 u202 u203 u204 u205 u206 u207 u208 u209 u210 u211 u212 u213 u214 u215 u216 u217 u218 u219 u220 u221 u222 u223 u224 u225 u226 u227 u228 u229 u230 u231 u232 u233 u234 u235 u236 u237 u238 u239 u240 u241 u242 u243 u244 u245 u246 u247 u248 u249 u250 u251 u252 u253 : Value) {K K1 : Act → World → Prop} (hexit : ∀ a w', WX w n₀ g hv0 R psF a w' → K1 a w') (hround : ∀ a w', WR w n₀ g hv0 k (k1 + 1) R psF a w' → K a w') :
    let Q' : Exit → Act → World → Prop := bodyPost Try.prog Try.f10 fun e w' => PushP w n₀ g hv0 R psF e w'
    Code.wp Try.prog body10 (Exit.then K (Exit.inBlock 0 (Exit.then K1 (Exit.noGoto Q')))) ⟨#[.pointer (some ⟨g, 0, none⟩), .slice A1 m1 c1, .pointer (some ⟨w.heap.size, 0, none⟩), undef, .slice none 0 0, .int .i64 0, .pointer (some ⟨w.heap.size + 1, 0, none⟩), u7, .func (.func 20) #[] #[.pointer (some ⟨w.heap.size + 1, 0, none⟩), .pointer (some ⟨w.heap.size, 0, none⟩)], u9, u10, u11, u12, .pointer (some ⟨g, 0, none⟩), .bool false, .pointer (some ⟨g, 0, none⟩), .pointer (some ⟨g, 0, none⟩), .pointer (some ⟨g, 6, none⟩), .int .i64 0, .bool false, undef, undef, undef, undef, .func (.func 20) #[] #[.pointer (some ⟨w.heap.size + 1, 0, none⟩), .pointer (some ⟨w.heap.size, 0, none⟩)], u25, u26, u27, u28, u29, u30, u31, u32, u33, u34, u35, u36, u37, u38, u39, u40, u41, u42, u43, u44, u45, u46, u47, u48, u49, u50, u51, u52, u53, u54, u55, u56, u57, u58, u59, u60, u61, u62, u63, u64, u65, u66, u67, u68, u69, u70, u71, u72, u73, u74, u75, u76, u77, u78, u79, u80, u81, u82, u83, u84, u85, u86, u87, u88, u89, u90, u91, u92, u93, u94, u95, u96, u97, u98, u99, u100, u101, u102, u103, u104, u105, u106, u107, u108, u109, u110, u111, u112, u113, u114, u115, u116, u117, u118, u119, u120, u121, u122, u123, u124, u125, u126, u127, u128, u129, u130, u131, u132, u133, u134, u135, u136, u137, u138, u139, u140, u141, u142, u143, u144, u145, u146, u147, u148, u149, u150, u151, u152, u153, u154, u155, u156, u157, u158, u159, u160, u161, u162, u163, u164, u165, u166, u167, u168, u169, u170, u171, u172, u173, u174, u175, u176, u177, u178, u179, u180, u181, u182, u183, u184, u185, u186, u187, u188, u189, u190, u191, u192, u193, u194, u195, u196, u197, u198, u199, u200, u201, u202, u203, u204, u205, u206, u207, u208, u209, u210, u211, u212, u213, u214, u215, u216, u217, u218, u219, u220, u221, u222, u223, u224, u225, u226, u227, u228, u229, u230, u231, u232, u233, u234, u235, u236, u237, u238, u239, u240, u241, u242, u243, u244, u245, u246, u247, u248, u249, u250, u251, u252, u253, undef, undef, undef, undef, undef], []⟩ W1 := by
  intro Q'
  have HQ := Aside0.mk hq
  have HKK := Aside0.mk hkk
  have HNIL := Aside0.mk hnil
  have HBL := Aside0.mk hbl
  have HCB := Aside0.mk hCb
  have HBB := Aside0.mk hbb
  obtain ⟨Ah, ch, rfl⟩ := Kd.R_slice hI.rd.row
  obtain ⟨hl, hhl⟩ : ∃ hl, r.held.length = hl := ⟨_, rfl⟩
  have hst := hI.ok.st
  have hl8 := hI.ok.hl
  rw [hhl] at hl8 hI
  have HHL := Aside0.mk hhl
  have HI := Aside0.mk hI
  clear hq hkk hI hnil hbl hCb hbb hhl
  obtain ⟨i5, hi5, hz5⟩ := Option.map_eq_some_iff.1 info5
  have hsz5 : i5.size = 1 := by simp only [Prod.mk.injEq] at hz5; exact hz5.2.1
  conv => arg 2; whnf
  have h0 : r.st ≠ 0 := by omega
  have hb0 : (r.st == 0) = false := beq_eq_false_iff_ne.mpr h0
  have hb1 : (r.st == 1) = true := beq_iff_eq.mpr h1
  obtain ⟨kk, hkk⟩ : ∃ kk, min (4 - hl) m1 = kk := ⟨_, rfl⟩
  have HKM := Aside0.mk hkk
  have HHO := Aside0.mk (pi_hold HI.out HHL.out h0 hmc1 hm1s HBL.out HCB.out HBB.out hkk)
  have hkm : kk ≤ m1 := by omega
  clear hkk
  have hx2 := blk_cell HI.out.x2 0
  have hg0 := blk_cell HI.out.rd.blk 0
  by_cases h4 : hl + kk = 4
  · skip
    have hb4 : ((hl : Int) + (kk : Int) == 4) = true := beq_iff_eq.mpr (by omega)
    go_wp2_with (go_at_call 21; refine HHO.out.mono ?_; rintro e w3 ⟨hv3, A3, rfl, hI3, hC3⟩; have HI3 := Aside0.mk hI3; have HC3 := Aside0.mk hC3; clear hI3 hC3)
    have hL4 := pi_size 0 HHL.out HBL.out HKM.out h4
    obtain ⟨A4, c4, rfl, hR4⟩ := row_form hL4 HI3.out.rd.row
    have HL4 := Aside0.mk hL4
    have HB4 := Aside0.mk (show Bytes (r.held ++ b.take kk) from HI3.out.ok.hb)
    have HR4 := Aside0.mk (Kd.R_reads' hR4)
    clear hR4 hL4 hg0 hx2
    have HBR := Aside0.mk (show 0 ≤ beN (r.held ++ b.take kk) ∧ beN (r.held ++ b.take kk) ≤ 4294967295 from by have := beN_range HB4.out HL4.out; omega)
    obtain ⟨sz, hsz⟩ : ∃ sz, beN (r.held ++ b.take kk) = sz := ⟨_, rfl⟩
    have HSZ := Aside0.mk hsz
    have HBR2 := Aside0.mk (show 0 ≤ sz ∧ sz ≤ 4294967295 from hsz ▸ HBR.out)
    have HBIG := Aside0.mk (show ∀ W : World, Below w3.heap.size w3 W → Calls Try.prog 22 #[.slice A4 4 c4, .int .i64 0, .int .i64 4] W fun e w' => e = .returned (.tuple #[.int .i64 sz, .int .i64 0]) ∧ Drawn0 W w' from fun W hW => hsz ▸ big_any A4 4 c4 _ W HB4.out HL4.out rfl (Kd.C_below (HL4.out ▸ HR4.out.2.2) hW) HR4.out.2.1)
    clear hsz
    refine start_ (n := 12) (S := fun w' => w'.cell? ⟨w.heap.size, 0, none⟩ = some (.pointer (some ⟨g, 0, none⟩)) ∧ w'.cell? ⟨g, 1, none⟩ = some (.slice A4 4 c4)) (ds := [11]) #[false, false, false, false, false, false, false, false, false, false, false, false] (by kernel_rfl) rfl rfl (pi_two HI3.out.drew) (fun hHeld => ?_)
    have HB6 := Aside0.mk (show Below w3.heap.size w3 w3.drew from below_drew (Below.refl _ _))
    have HI6 := Aside0.mk HI3.out.drew
    generalize w3.drew = W6 at hHeld HB6 HI6 ⊢
    have hg3 := blk_cell HI6.out.rd.blk 3
    have hf3 := blk_frozen HI6.out.rd.blk 3
    refine take_ (i := 0) (N := some 84) (v := ?_) (a' := ?_) #[true, false, false, false, false, false, false, false, false, false, false, false] rfl rfl (by kernel_rfl) (fun _ _ _ h => h) (Or.inl ⟨by rfl, ?_⟩) hHeld ?_ ?_
    rotate_left
    · rintro w' ⟨s0, s1⟩
      go_simp
      with_reducible rfl
    rotate_left
    · simp only [Act.put, List.setIfInBounds_toArray, List.set_cons_zero, List.set_cons_succ, i64_w, i32_w]
      rfl
    refine take_ (i := 1) (N := some 85) (v := ?_) (a' := ?_) #[true, true, false, false, false, false, false, false, false, false, false, false] rfl rfl (by kernel_rfl) (fun _ _ _ h => h) (Or.inl ⟨by rfl, ?_⟩) hHeld ?_ ?_
    rotate_left
    · rintro w' ⟨s0, s1⟩
      go_simp
      with_reducible rfl
    rotate_left
    · simp only [Act.put, List.setIfInBounds_toArray, List.set_cons_zero, List.set_cons_succ, i64_w, i32_w]
      rfl
    refine pure_ (i := 2) (N := some 86) (v := ?_) (a' := ?_) #[true, true, true, false, false, false, false, false, false, false, false, false] rfl rfl (by kernel_rfl) (fun _ _ _ h => h) (Or.inl ⟨by rfl, ?_⟩) ?_ ?_
    rotate_left
    · intro w'
      go_simp
      with_reducible rfl
    rotate_left
    · simp only [Act.put, List.setIfInBounds_toArray, List.set_cons_zero, List.set_cons_succ, i64_w, i32_w]
      rfl
    refine pure_ (i := 3) (N := some 87) (v := ?_) (a' := ?_) #[true, true, true, true, false, false, false, false, false, false, false, false] rfl rfl (by kernel_rfl) (fun _ _ _ h => h) (Or.inl ⟨by rfl, ?_⟩) ?_ ?_
    rotate_left
    · intro w'
      go_simp
      with_reducible rfl
    rotate_left
    · simp only [Act.put, List.setIfInBounds_toArray, List.set_cons_zero, List.set_cons_succ, i64_w, i32_w]
      rfl
    refine take_ (i := 4) (N := some 88) (v := ?_) (a' := ?_) #[true, true, true, true, true, false, false, false, false, false, false, false] rfl rfl (by kernel_rfl) (fun _ _ _ h => h) (Or.inl ⟨by rfl, ?_⟩) hHeld ?_ ?_
    rotate_left
    · rintro w' ⟨s0, s1⟩
      go_simp
      with_reducible rfl
    rotate_left
    · simp only [Act.put, List.setIfInBounds_toArray, List.set_cons_zero, List.set_cons_succ, i64_w, i32_w]
      rfl
    refine one_ (i := 5) (N := some 89) #[true, true, true, true, true, true, false, false, false, false, false, false] rfl rfl (by kernel_rfl) (by decide) (fun K hK => ?_)
    refine goes_ Try.func22 (by kernel_rfl) rfl #[.slice A4 4 c4, .int .i64 0, .int .i64 4] (by rfl) rfl rfl (by simp only [List.map_toArray, List.map_cons, List.map_nil]; rfl) ((HBIG.out _ HB6.out).mono ?_)
    rintro e w5 ⟨rfl, ⟨q5, rfl⟩⟩
    refine ⟨_, rfl, ?_⟩
    refine hK.out _ _ (pi_two (HI6.out.drewN _)) (fun hHeld2 => ?_)
    clear hK K
    refine norm_ (a' := ?_) ?_ ?_
    rotate_left
    · show Act.put _ (some 89) _ = _
      simp only [Act.put, List.setIfInBounds_toArray, List.set_cons_zero, List.set_cons_succ, i64_w, i32_w]
      rfl
    refine pure_ (i := 6) (N := some 83) (v := ?_) (a' := ?_) #[true, true, true, true, true, true, true, false, false, false, false, false] rfl rfl (by kernel_rfl) (fun _ _ _ h => h) (Or.inl ⟨by rfl, ?_⟩) ?_ ?_
    rotate_left
    · intro w'
      go_simp
      with_reducible rfl
    rotate_left
    · simp only [Act.put, List.setIfInBounds_toArray, List.set_cons_zero, List.set_cons_succ, i64_w, i32_w]
      rfl
    refine pure_ (i := 7) (N := some 90) (v := ?_) (a' := ?_) #[true, true, true, true, true, true, true, true, false, false, false, false] rfl rfl (by kernel_rfl) (fun _ _ _ h => h) (Or.inl ⟨by rfl, ?_⟩) ?_ ?_
    rotate_left
    · intro w'
      go_simp
      with_reducible rfl
    rotate_left
    · simp only [Act.put, List.setIfInBounds_toArray, List.set_cons_zero, List.set_cons_succ, i64_w, i32_w]
      rfl
    refine pure_ (i := 8) (N := some 91) (v := ?_) (a' := ?_) #[true, true, true, true, true, true, true, true, true, false, false, false] rfl rfl (by kernel_rfl) (fun _ _ _ h => h) (Or.inl ⟨by rfl, ?_⟩) ?_ ?_
    rotate_left
    · intro w'
      go_simp
      with_reducible rfl
    rotate_left
    · simp only [Act.put, List.setIfInBounds_toArray, List.set_cons_zero, List.set_cons_succ, i64_w, i32_w]
      rfl
    refine pure_ (i := 9) (N := some 92) (v := ?_) (a' := ?_) #[true, true, true, true, true, true, true, true, true, true, false, false] rfl rfl (by kernel_rfl) (fun _ _ _ h => h) (Or.inl ⟨by rfl, ?_⟩) ?_ ?_
    rotate_left
    · intro w'
      go_simp
      with_reducible rfl
    rotate_left
    · simp only [Act.put, List.setIfInBounds_toArray, List.set_cons_zero, List.set_cons_succ, i64_w, i32_w]
      rfl
    refine pure_ (i := 10) (N := some 93) (v := ?_) (a' := ?_) #[true, true, true, true, true, true, true, true, true, true, true, false] rfl rfl (by kernel_rfl) (fun _ _ _ h => h) (Or.inl ⟨by rfl, ?_⟩) ?_ ?_
    rotate_left
    · intro w'
      go_simp
      with_reducible rfl
    rotate_left
    · simp only [Act.put, List.setIfInBounds_toArray, List.set_cons_zero, List.set_cons_succ, i64_w, i32_w]
      rfl
    refine last_ (i := 11) (N := none) #[true, true, true, true, true, true, true, true, true, true, true, true] rfl rfl (by kernel_rfl) (by decide) (fun K hK => ?_)
    refine skip_ (w1 := ?_) (by rfl) rfl ?_ ?_
    rotate_left
    · go_simp
      rfl
    refine hK.out _ _ ?_
    clear hK K
    refine done_ (by kernel_rfl) ?_
    have HI7 := Aside0.mk ((HI6.out.drewN q5).set3 sz HBR2.out)
    generalize (W6.drewN q5).setCell ⟨g, 3, none⟩ (.int .i64 sz) = W7 at HI7 ⊢
    clear hg3 hf3 hHeld hHeld2
    have hx2 := blk_cell HI7.out.x2 0
    have hg3 := blk_cell HI7.out.rd.blk 3
    have hg6 := blk_cell HI7.out.rd.blk 6
    have hf6 := blk_frozen HI7.out.rd.blk 6
    have hf1 := blk_frozen HI7.out.rd.blk 1
    have hf0 := blk_frozen HI7.out.rd.blk 0
    have hg1 := blk_cell HI7.out.rd.blk 1
    have hg0 := blk_cell HI7.out.rd.blk 0
    by_cases hbig : 1048576 < sz
    · go_wp2
      obtain ⟨rfl, rfl⟩ := run_stop (step_1l_ HSZ.out HHL.out (by rw [HBL.out]; exact HKM.out) h1 h4 hbig) HQ.out
      (repeat apply Exists.intro)
      refine ⟨HI7.out.set6 9, ?_⟩
      unfold Frm
      (repeat apply Exists.intro)
      rfl
    · have hbig2 : sz ≤ 1048576 := by omega
      go_wp2
      go_region
      all_goals go_wp2
      refine Exists.intro k1 ?_
      (repeat apply Exists.intro)
      refine ⟨Nat.lt_succ_self _, ?_, ?_⟩
      · unfold Frm
        (repeat apply Exists.intro)
        rfl
      exact at_1 HSZ.out HQ.out HKK.out HI7.out HNIL.out (step_1 HHL.out (by rw [HBL.out]; exact HKM.out) h1 h4 (by rw [HSZ.out]; exact Int.not_lt.mpr hbig2)) hkm hmc1 hm1s HBL.out HC3.out HBB.out h1
  · skip
    have hb4 : ((hl : Int) + (kk : Int) == 4) = false := beq_eq_false_iff_ne.mpr (by omega)
    go_wp2_with (go_at_call 21; refine HHO.out.mono ?_; rintro e w3 ⟨hv3, A3, rfl, hI3, hC3⟩; have HI3 := Aside0.mk hI3; have HC3 := Aside0.mk hC3; clear hI3 hC3)
    obtain ⟨rfl, rfl⟩ := run_stop (step_h HHL.out (by rw [HBL.out]; exact HKM.out) h0 (by omega) h4) HQ.out
    (repeat apply Exists.intro)
    refine ⟨HI3.out, ?_⟩
    unfold Frm
    (repeat apply Exists.intro)
    rfl
end Go.Proofs.Ytapaodagnpaekaa.Lib
