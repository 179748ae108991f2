/- chunk: Push at filling. -/
import Derived.Test.YtapaodagnpaekaaVl
namespace Go.Proofs.Ytapaodagnpaekaa.Lib
open Go.RowKit Go.Proofs.YtapaodagnpaekaaW.PrintWords Go.Proofs.YtapaodagnpaekaaW.PrintLast Go.Proofs.YtapaodagnpaekaaW.PrintMore
attribute [local go_sem] max2_mx min2_mn max_two min_two
set_option linter.unusedVariables false
set_option linter.unusedSimpArgs false
set_option maxHeartbeats 4000000 in
set_option maxRecDepth 100000 in
theorem push_s3 {w W1 : World} {n₀ g : Nat} {hv0 hv ov : Value} {r R : RS} {pcs : List Pc} {ps psF : List PS} {k k1 : Nat} {b : List Int} {A1 : Option Addr} {m1 c1 : Nat} (hk : k ≤ 1000000) (hq : runM (k1 + 1) r b ps = some (R, psF)) (hkk : pcs.length + (k1 + 1) ≤ k) (hI : PI w W1 n₀ g hv0 hv ov r pcs ps) (hnil : Nil3 r.st pcs) (hmc1 : m1 ≤ c1) (hm1s : m1 ≤ 1000000) (hbl : b.length = m1) (hCb : ∀ W', Kept w W' (RdS g hv0) → Kd.C (Kd.int .u8) W' A1 m1 b) (hbb : Bytes b) (h1 : r.st = 3)
    (u7 u9 u10 u11 u12 u25 u26 u27 u28 u29 u30 u31 u32 u33 u34 u35 u36 u37 u38 u39 u40 u41 u42 u43 u44 u45 u46 u47 u48 u49 u50 u51 u52 u53 u54 u55 u56 u57 u58 u59 u60 u61 u62 u63 u64 u65 u66 u67 u68 u69 u70 u71 u72 u73 u74 u75 u76 u77 u78 u79 u80 u81 u82 u83 u84 u85 u86 u87 u88 u89 u90 u91 u92 u93 u94 u95 u96 u97 u98 u99 u100 u101 u102 u103 u104 u105 u106 u107 u108 u109 u110 u111 u112 u113 u114 u115 u116 u117 u118 u119 u120 u121 u122 u123 u124 u125 u126 u127 u128 u129 u130 u131 u132 u133 u134 u135 u136 u137 u138 u139 u140 u141 u142 u143 u144 u145 u146 u147 u148 u149 u150 u151 u152 u153 u154 u155 u156 u157 u158 u159 u160 u161 u162 u163 u164 u165 u166 u167 u168 u169 u170 u171 u172 u173 u174 u175 u176 u177 u178 u179 u180 u181 u182 u183 u184 u185 u186 u187 u188 u189 u190 u191 u192 u193 u194 u195 u196 u197 u198 u199 u200 u201 u202 u203 u204 u205 u206 u207 u208 u209 u210 u211 u212 u213 u214 u215 u216 u217 u218 u219 u220 u221 u222 u223 u224 u225 u226 u227 u228 u229 u230 u231 u232 u233 u234 u235 u236 u237 u238 u239 u240 u241 u242 u243 u244 u245 u246 u247 u248 u249 u250 u251 u252 u253 : Value) {K K1 : Act → World → Prop} (hexit : ∀ a w', WX w n₀ g hv0 R psF a w' → K1 a w') (hround : ∀ a w', WR w n₀ g hv0 k (k1 + 1) R psF a w' → K a w') :
    let Q' : Exit → Act → World → Prop := bodyPost Try.prog Try.f10 fun e w' => PushP w n₀ g hv0 R psF e w'
    Code.wp Try.prog body10 (Exit.then K (Exit.inBlock 0 (Exit.then K1 (Exit.noGoto Q')))) ⟨#[.pointer (some ⟨g, 0, none⟩), .slice A1 m1 c1, .pointer (some ⟨w.heap.size, 0, none⟩), undef, .slice none 0 0, .int .i64 0, .pointer (some ⟨w.heap.size + 1, 0, none⟩), u7, .func (.func 20) #[] #[.pointer (some ⟨w.heap.size + 1, 0, none⟩), .pointer (some ⟨w.heap.size, 0, none⟩)], u9, u10, u11, u12, .pointer (some ⟨g, 0, none⟩), .bool false, .pointer (some ⟨g, 0, none⟩), .pointer (some ⟨g, 0, none⟩), .pointer (some ⟨g, 6, none⟩), .int .i64 0, .bool false, undef, undef, undef, undef, .func (.func 20) #[] #[.pointer (some ⟨w.heap.size + 1, 0, none⟩), .pointer (some ⟨w.heap.size, 0, none⟩)], u25, u26, u27, u28, u29, u30, u31, u32, u33, u34, u35, u36, u37, u38, u39, u40, u41, u42, u43, u44, u45, u46, u47, u48, u49, u50, u51, u52, u53, u54, u55, u56, u57, u58, u59, u60, u61, u62, u63, u64, u65, u66, u67, u68, u69, u70, u71, u72, u73, u74, u75, u76, u77, u78, u79, u80, u81, u82, u83, u84, u85, u86, u87, u88, u89, u90, u91, u92, u93, u94, u95, u96, u97, u98, u99, u100, u101, u102, u103, u104, u105, u106, u107, u108, u109, u110, u111, u112, u113, u114, u115, u116, u117, u118, u119, u120, u121, u122, u123, u124, u125, u126, u127, u128, u129, u130, u131, u132, u133, u134, u135, u136, u137, u138, u139, u140, u141, u142, u143, u144, u145, u146, u147, u148, u149, u150, u151, u152, u153, u154, u155, u156, u157, u158, u159, u160, u161, u162, u163, u164, u165, u166, u167, u168, u169, u170, u171, u172, u173, u174, u175, u176, u177, u178, u179, u180, u181, u182, u183, u184, u185, u186, u187, u188, u189, u190, u191, u192, u193, u194, u195, u196, u197, u198, u199, u200, u201, u202, u203, u204, u205, u206, u207, u208, u209, u210, u211, u212, u213, u214, u215, u216, u217, u218, u219, u220, u221, u222, u223, u224, u225, u226, u227, u228, u229, u230, u231, u232, u233, u234, u235, u236, u237, u238, u239, u240, u241, u242, u243, u244, u245, u246, u247, u248, u249, u250, u251, u252, u253, undef, undef, undef, undef, undef], []⟩ W1 := by
  intro Q'
  have HQ := Aside0.mk hq
  have HKK := Aside0.mk hkk
  have HNIL := Aside0.mk hnil
  have HBL := Aside0.mk hbl
  have HCB := Aside0.mk hCb
  have HBB := Aside0.mk hbb
  obtain ⟨Ah, ch, rfl⟩ := Kd.R_slice hI.rd.row
  obtain ⟨hl, hhl⟩ : ∃ hl, r.held.length = hl := ⟨_, rfl⟩
  have hst := hI.ok.st
  have hl8 := hI.ok.hl
  rw [hhl] at hl8 hI
  have HHL := Aside0.mk hhl
  have HI := Aside0.mk hI
  clear hq hkk hI hnil hbl hCb hbb hhl
  obtain ⟨i5, hi5, hz5⟩ := Option.map_eq_some_iff.1 info5
  have hsz5 : i5.size = 1 := by simp only [Prod.mk.injEq] at hz5; exact hz5.2.1
  conv => arg 2; whnf
  have h0 : r.st ≠ 0 := by omega
  have hb0 : (r.st == 0) = false := beq_eq_false_iff_ne.mpr h0
  have hb1 : (r.st == 1) = false := beq_eq_false_iff_ne.mpr (by omega)
  have hb2 : (r.st == 2) = false := beq_eq_false_iff_ne.mpr (by omega)
  have hb3 : (r.st == 3) = true := beq_iff_eq.mpr h1
  have hlf := HI.out.ok.lf
  obtain ⟨kk, hkk⟩ : ∃ kk, min r.left.toNat m1 = kk := ⟨_, rfl⟩
  have HKM := Aside0.mk (show min r.left.toNat b.length = kk from by rw [HBL.out]; exact hkk)
  have hkm : kk ≤ m1 := by omega
  have hkl : (kk : Int) ≤ r.left := by omega
  have HMN := Aside0.mk (fact_fill hlf.1 hkk)
  clear hkk
  have hx2 := blk_cell HI.out.x2 0
  have hg0 := blk_cell HI.out.rd.blk 0
  have hg4 := blk_cell HI.out.rd.blk 4
  have hf0 := blk_frozen HI.out.rd.blk 0
  by_cases hk0 : kk = 0
  · have hmn : mn r.left (m1 : Int) = 0 := by have := HMN.out; rw [hk0] at this; exact this
    have HKZ := Aside0.mk (show min r.left.toNat b.length = 0 from HKM.out.trans hk0)
    clear HKM
    by_cases hx : 0 < r.left
    · go_wp2
      obtain ⟨rfl, rfl⟩ := run_stop (step_3n h1 HKZ.out hx) HQ.out
      (repeat apply Exists.intro)
      refine ⟨HI.out, ?_⟩
      unfold Frm
      (repeat apply Exists.intro)
      rfl
    · have hx9 : r.left ≤ 0 := by omega
      clear hx
      go_wp2
      refine Exists.intro k1 ?_
      (repeat apply Exists.intro)
      refine ⟨Nat.lt_succ_self _, ?_, ?_⟩
      · unfold Frm
        (repeat apply Exists.intro)
        rfl
      exact at_3z HQ.out HKK.out HI.out (step_3z h1 HKZ.out (Int.not_lt.mpr hx9)) hmc1 hm1s HBL.out HCB.out HBB.out h1
  · have hmn := HMN.out
    have hk1 : (0 : Int) < (kk : Int) := by omega
    have hk2 : (0 : Int) ≤ (kk : Int) := by omega
    have HPN := Aside0.mk (show pcs.length ≤ 1000000 from by have := HKK.out; omega)
    have HNOW := Aside0.mk (HI.out.now HPN.out)
    have hct := cut_to (P := Try.prog) 26 5 .i64 Try.underlying26 hi5 A1 m1 c1 (kk : Int) (by omega) (by omega) hmc1
    obtain ⟨A3, hA3⟩ : ∃ A3, (if c1 = kk then A1 else A1.map (·.add (kk * 1))) = A3 := ⟨_, rfl⟩
    have hcf := cut_from (P := Try.prog) 26 5 .i64 Try.underlying26 hi5 1 hsz5 A1 m1 c1 (kk : Int) (by omega) (by omega)
    rw [Int.toNat_natCast] at hct hcf
    rw [hA3] at hcf
    have HTA := Aside0.mk (show ∀ W', Kept w W' (RdS g hv0) → Kd.C (Kd.int .u8) W' A1 kk (b.take kk) from fun W' hW => by
      have h3 : kk ≤ b.length := by have := HBL.out; omega
      have h0 := HCB.out W' hW
      rw [← HBL.out] at h0
      have h1 := Kd.C_take h0 (m := kk) h3
      rw [List.length_take, Nat.min_eq_left h3] at h1
      exact h1)
    have HC3 := Aside0.mk (show ∀ W', Kept w W' (RdS g hv0) → Kd.C (Kd.int .u8) W' A3 (m1 - kk) (b.drop kk) from fun W' hW => by
      have h0 := HCB.out W' hW
      have h9 := HBL.out
      subst h9
      have h2 := Kd.C_drop h0 (m := kk) (c := c1) hkm hmc1
      rw [List.length_drop, show (Kd.int .u8).sz = 1 from rfl, hA3] at h2
      exact h2)
    have HTL := Aside0.mk (show (b.take kk).length = kk from by rw [List.length_take, HBL.out]; omega)
    have HZ := Aside0.mk (show (([] : List Int).length + kk) * 1 ≤ 140737488355328 from by simp; omega)
    obtain ⟨sm, hsm⟩ : ∃ sm, moreN r.sum (b.take kk) = sm := ⟨_, rfl⟩
    have HSM := Aside0.mk hsm
    have HSMR := Aside0.mk (show 0 ≤ sm ∧ sm < 4294967296 from hsm ▸ moreN_range _ _)
    have HMO := Aside0.mk (more_fill (w := w) (g := g) (hv0 := hv0) HI.out.ok.sm HBL.out HBB.out hkm hmc1 hm1s hsm HCB.out)
    obtain ⟨lf, hlfe⟩ : ∃ lf, r.left - (kk : Int) = lf := ⟨_, rfl⟩
    have HLF := Aside0.mk hlfe
    have HLR := Aside0.mk (show 0 ≤ lf ∧ lf ≤ 4294967295 from by omega)
    clear hlfe hsm hA3 hf0
    go_wp2_with fail
    refine HNOW.out.mono ?_
    rintro e W3 ⟨go, co, p, rfl, hlen, hI12⟩
    have HLEN := Aside0.mk hlen
    have HI3 := Aside0.mk hI12
    have HNA := Aside0.mk (nowL_nil r.st HNIL.out (by omega) hlen)
    have HD3 := Aside0.mk (pi_data HI3.out HLEN.out HNA.out)
    clear hI12 hlen hx2 hg0 hg4
    go_wp2
    refine start_ (n := 12) (S := fun w' => w'.cell? ⟨go, p * 5 + 2, none⟩ = some (.slice none 0 0)) (ds := [11]) #[false, false, false, false, false, false, false, false, false, false, false, false] (by kernel_rfl) rfl rfl (HD3.out.1) (fun hHeld => ?_)
    have HI6 := Aside0.mk HI3.out.drew
    clear HI3
    generalize W3.drew = W6 at hHeld HI6 ⊢
    have HTK := Aside0.mk (HTA.out W6 HI6.out.kp)
    refine pure_ (i := 0) (N := some 174) (v := ?_) (a' := ?_) #[true, false, false, false, false, false, false, false, false, false, false, false] rfl rfl (by kernel_rfl) (fun _ _ _ h => h) (Or.inl ⟨by rfl, ?_⟩) ?_ ?_
    rotate_left
    · intro w'
      go_simp
      with_reducible rfl
    rotate_left
    · simp only [Act.put, List.setIfInBounds_toArray, List.set_cons_zero, List.set_cons_succ, i64_w, i32_w]
      rfl
    refine pure_ (i := 1) (N := some 175) (v := ?_) (a' := ?_) #[true, true, false, false, false, false, false, false, false, false, false, false] rfl rfl (by kernel_rfl) (fun _ _ _ h => h) (Or.inl ⟨by rfl, ?_⟩) ?_ ?_
    rotate_left
    · intro w'
      go_simp
      with_reducible rfl
    rotate_left
    · simp only [Act.put, List.setIfInBounds_toArray, List.set_cons_zero, List.set_cons_succ, i64_w, i32_w]
      rfl
    refine pure_ (i := 2) (N := some 176) (v := ?_) (a' := ?_) #[true, true, true, false, false, false, false, false, false, false, false, false] rfl rfl (by kernel_rfl) (fun _ _ _ h => h) (Or.inl ⟨by rfl, ?_⟩) ?_ ?_
    rotate_left
    · intro w'
      go_simp
      with_reducible rfl
    rotate_left
    · simp only [Act.put, List.setIfInBounds_toArray, List.set_cons_zero, List.set_cons_succ, i64_w, i32_w]
      rfl
    refine pure_ (i := 3) (N := some 177) (v := ?_) (a' := ?_) #[true, true, true, true, false, false, false, false, false, false, false, false] rfl rfl (by kernel_rfl) (fun _ _ _ h => h) (Or.inl ⟨by rfl, ?_⟩) ?_ ?_
    rotate_left
    · intro w'
      go_simp
      with_reducible rfl
    rotate_left
    · simp only [Act.put, List.setIfInBounds_toArray, List.set_cons_zero, List.set_cons_succ, i64_w, i32_w]
      rfl
    refine pure_ (i := 5) (N := some 179) (v := ?_) (a' := ?_) #[true, true, true, true, false, true, false, false, false, false, false, false] rfl rfl (by kernel_rfl) (fun _ _ _ h => h) (Or.inl ⟨by rfl, ?_⟩) ?_ ?_
    rotate_left
    · intro w'
      go_simp
      with_reducible rfl
    rotate_left
    · simp only [Act.put, List.setIfInBounds_toArray, List.set_cons_zero, List.set_cons_succ, i64_w, i32_w]
      rfl
    refine pure_ (i := 6) (N := some 180) (v := ?_) (a' := ?_) #[true, true, true, true, false, true, true, false, false, false, false, false] rfl rfl (by kernel_rfl) (fun _ _ _ h => h) (Or.inl ⟨by rfl, ?_⟩) ?_ ?_
    rotate_left
    · intro w'
      go_simp
      with_reducible rfl
    rotate_left
    · simp only [Act.put, List.setIfInBounds_toArray, List.set_cons_zero, List.set_cons_succ, i64_w, i32_w]
      rfl
    refine pure_ (i := 7) (N := some 181) (v := ?_) (a' := ?_) #[true, true, true, true, false, true, true, true, false, false, false, false] rfl rfl (by kernel_rfl) (fun _ _ _ h => h) (Or.inl ⟨by rfl, ?_⟩) ?_ ?_
    rotate_left
    · intro w'
      go_simp
      with_reducible rfl
    rotate_left
    · simp only [Act.put, List.setIfInBounds_toArray, List.set_cons_zero, List.set_cons_succ, i64_w, i32_w]
      rfl
    refine take_ (i := 4) (N := some 178) (v := ?_) (a' := ?_) #[true, true, true, true, true, true, true, true, false, false, false, false] rfl rfl (by kernel_rfl) (fun _ _ _ h => h) (Or.inl ⟨by rfl, ?_⟩) hHeld ?_ ?_
    rotate_left
    · intro w' s0
      go_simp
      with_reducible rfl
    rotate_left
    · simp only [Act.put, List.setIfInBounds_toArray, List.set_cons_zero, List.set_cons_succ, i64_w, i32_w]
      rfl
    refine one_ (i := 8) (N := some 182) #[true, true, true, true, true, true, true, true, true, false, false, false] rfl rfl (by kernel_rfl) (by decide) (fun K hK => ?_)
    refine Kd.R_append_rows_step (Kd.int .u8) (w0 := W6) W6.heap.size (by rfl) (.tmp 178) (.tmp 181) 26 5 (.int .u8 0) 1 rfl Try.underlying26 info5 rfl (by decide) (by decide) (.slice none 0 0) [] (b.take kk) A1 kk c1 (fun _ => True) (fun _ => False) (by rfl) (by rfl) (Kd.R_nil _ _ _ _ _) HTK.out (fun _ _ h => h) (fun _ h => h.elim) (fun _ _ => trivial) (Below.refl _ _) (Nat.le_refl _) HZ.out ?_
    intro v8 w8 hR8 hb8 hg8 hat8
    rw [List.nil_append] at hR8
    obtain ⟨A8, c8, rfl, hR8⟩ := row_form HTL.out hR8
    have HP8 := Aside0.mk (HI6.out.fill HLEN.out HNA.out hb8 hR8)
    have HD8 := Aside0.mk (pi_data (HI6.out.ext hb8) HLEN.out HNA.out)
    have hf8 := HD8.out.2
    clear hR8 hb8 hg8 hat8
    refine hK.out _ _ (HD8.out.1) (fun hHeld => ?_)
    clear hK K
    refine norm_ (a' := ?_) ?_ ?_
    rotate_left
    · show Act.put _ (some 182) _ = _
      simp only [Act.put, List.setIfInBounds_toArray, List.set_cons_zero, List.set_cons_succ, i64_w, i32_w]
      rfl
    refine pure_ (i := 9) (N := some 183) (v := ?_) (a' := ?_) #[true, true, true, true, true, true, true, true, true, true, false, false] rfl rfl (by kernel_rfl) (fun _ _ _ h => h) (Or.inl ⟨by rfl, ?_⟩) ?_ ?_
    rotate_left
    · intro w'
      go_simp
      with_reducible rfl
    rotate_left
    · simp only [Act.put, List.setIfInBounds_toArray, List.set_cons_zero, List.set_cons_succ, i64_w, i32_w]
      rfl
    refine pure_ (i := 10) (N := some 184) (v := ?_) (a' := ?_) #[true, true, true, true, true, true, true, true, true, true, true, false] rfl rfl (by kernel_rfl) (fun _ _ _ h => h) (Or.inl ⟨by rfl, ?_⟩) ?_ ?_
    rotate_left
    · intro w'
      go_simp
      with_reducible rfl
    rotate_left
    · simp only [Act.put, List.setIfInBounds_toArray, List.set_cons_zero, List.set_cons_succ, i64_w, i32_w]
      rfl
    refine last_ (i := 11) (N := none) #[true, true, true, true, true, true, true, true, true, true, true, true] rfl rfl (by kernel_rfl) (by decide) (fun K hK => ?_)
    refine skip_ (w1 := ?_) (by rfl) rfl ?_ ?_
    rotate_left
    · go_simp
      rfl
    refine hK.out _ _ ?_
    clear hK K
    refine done_ (by kernel_rfl) ?_
    clear hf8 hHeld
    generalize w8.setCell ⟨go, p * 5 + 2, none⟩ (.slice A8 kk c8) = W9 at HP8 ⊢
    go_wp2
    refine start_ (n := 12) (S := fun w' => w'.cell? ⟨w.heap.size, 0, none⟩ = some (.pointer (some ⟨g, 0, none⟩)) ∧ w'.cell? ⟨g, 5, none⟩ = some (.int .u32 r.sum)) (ds := [11]) #[false, false, false, false, false, false, false, false, false, false, false, false] (by kernel_rfl) rfl rfl ⟨blk_cell HP8.out.drew.x2 0, blk_cell HP8.out.drew.rd.blk 5⟩ (fun hHeld => ?_)
    have HI10 := Aside0.mk HP8.out.drew
    clear HP8
    generalize W9.drew = W10 at hHeld HI10 ⊢
    refine pure_ (i := 5) (N := some 190) (v := ?_) (a' := ?_) #[false, false, false, false, false, true, false, false, false, false, false, false] rfl rfl (by kernel_rfl) (fun _ _ _ h => h) (Or.inl ⟨by rfl, ?_⟩) ?_ ?_
    rotate_left
    · intro w'
      go_simp
      with_reducible rfl
    rotate_left
    · simp only [Act.put, List.setIfInBounds_toArray, List.set_cons_zero, List.set_cons_succ, i64_w, i32_w]
      rfl
    refine pure_ (i := 6) (N := some 191) (v := ?_) (a' := ?_) #[false, false, false, false, false, true, true, false, false, false, false, false] rfl rfl (by kernel_rfl) (fun _ _ _ h => h) (Or.inl ⟨by rfl, ?_⟩) ?_ ?_
    rotate_left
    · intro w'
      go_simp
      with_reducible rfl
    rotate_left
    · simp only [Act.put, List.setIfInBounds_toArray, List.set_cons_zero, List.set_cons_succ, i64_w, i32_w]
      rfl
    refine pure_ (i := 7) (N := some 192) (v := ?_) (a' := ?_) #[false, false, false, false, false, true, true, true, false, false, false, false] rfl rfl (by kernel_rfl) (fun _ _ _ h => h) (Or.inl ⟨by rfl, ?_⟩) ?_ ?_
    rotate_left
    · intro w'
      go_simp
      with_reducible rfl
    rotate_left
    · simp only [Act.put, List.setIfInBounds_toArray, List.set_cons_zero, List.set_cons_succ, i64_w, i32_w]
      rfl
    refine take_ (i := 0) (N := some 185) (v := ?_) (a' := ?_) #[true, false, false, false, false, true, true, true, false, false, false, false] rfl rfl (by kernel_rfl) (fun _ _ _ h => h) (Or.inl ⟨by rfl, ?_⟩) hHeld ?_ ?_
    rotate_left
    · rintro w' ⟨s0, s1⟩
      go_simp
      with_reducible rfl
    rotate_left
    · simp only [Act.put, List.setIfInBounds_toArray, List.set_cons_zero, List.set_cons_succ, i64_w, i32_w]
      rfl
    refine take_ (i := 1) (N := some 186) (v := ?_) (a' := ?_) #[true, true, false, false, false, true, true, true, false, false, false, false] rfl rfl (by kernel_rfl) (fun _ _ _ h => h) (Or.inl ⟨by rfl, ?_⟩) hHeld ?_ ?_
    rotate_left
    · rintro w' ⟨s0, s1⟩
      go_simp
      with_reducible rfl
    rotate_left
    · simp only [Act.put, List.setIfInBounds_toArray, List.set_cons_zero, List.set_cons_succ, i64_w, i32_w]
      rfl
    refine pure_ (i := 2) (N := some 187) (v := ?_) (a' := ?_) #[true, true, true, false, false, true, true, true, false, false, false, false] rfl rfl (by kernel_rfl) (fun _ _ _ h => h) (Or.inl ⟨by rfl, ?_⟩) ?_ ?_
    rotate_left
    · intro w'
      go_simp
      with_reducible rfl
    rotate_left
    · simp only [Act.put, List.setIfInBounds_toArray, List.set_cons_zero, List.set_cons_succ, i64_w, i32_w]
      rfl
    refine pure_ (i := 3) (N := some 188) (v := ?_) (a' := ?_) #[true, true, true, true, false, true, true, true, false, false, false, false] rfl rfl (by kernel_rfl) (fun _ _ _ h => h) (Or.inl ⟨by rfl, ?_⟩) ?_ ?_
    rotate_left
    · intro w'
      go_simp
      with_reducible rfl
    rotate_left
    · simp only [Act.put, List.setIfInBounds_toArray, List.set_cons_zero, List.set_cons_succ, i64_w, i32_w]
      rfl
    refine take_ (i := 4) (N := some 189) (v := ?_) (a' := ?_) #[true, true, true, true, true, true, true, true, false, false, false, false] rfl rfl (by kernel_rfl) (fun _ _ _ h => h) (Or.inl ⟨by rfl, ?_⟩) hHeld ?_ ?_
    rotate_left
    · rintro w' ⟨s0, s1⟩
      go_simp
      with_reducible rfl
    rotate_left
    · simp only [Act.put, List.setIfInBounds_toArray, List.set_cons_zero, List.set_cons_succ, i64_w, i32_w]
      rfl
    refine one_ (i := 8) (N := some 193) #[true, true, true, true, true, true, true, true, true, false, false, false] rfl rfl (by kernel_rfl) (by decide) (fun K hK => ?_)
    refine goes_ Try.func25 (by kernel_rfl) rfl #[.int .u32 r.sum, .slice A1 kk c1] (by rfl) rfl rfl (by simp only [List.map_toArray, List.map_cons, List.map_nil]; rfl) ?_
    with_reducible refine ((HMO.out _ HI10.out.kp)).mono ?_
    rintro e w11 ⟨rfl, q11, rfl⟩
    refine ⟨_, rfl, ?_⟩
    have HI11 := Aside0.mk (HI10.out.drewN q11)
    generalize W10.drewN q11 = W11 at HI11 ⊢
    have hf5 := blk_frozen HI11.out.rd.blk 5
    refine hK.out _ _ ⟨blk_cell HI11.out.x2 0, blk_cell HI11.out.rd.blk 5⟩ (fun hHeld => ?_)
    clear hK K
    refine norm_ (a' := ?_) ?_ ?_
    rotate_left
    · show Act.put _ (some 193) _ = _
      simp only [Act.put, List.setIfInBounds_toArray, List.set_cons_zero, List.set_cons_succ, i64_w, i32_w]
      rfl
    refine pure_ (i := 9) (N := some 194) (v := ?_) (a' := ?_) #[true, true, true, true, true, true, true, true, true, true, false, false] rfl rfl (by kernel_rfl) (fun _ _ _ h => h) (Or.inl ⟨by rfl, ?_⟩) ?_ ?_
    rotate_left
    · intro w'
      go_simp
      with_reducible rfl
    rotate_left
    · simp only [Act.put, List.setIfInBounds_toArray, List.set_cons_zero, List.set_cons_succ, i64_w, i32_w]
      rfl
    refine pure_ (i := 10) (N := some 195) (v := ?_) (a' := ?_) #[true, true, true, true, true, true, true, true, true, true, true, false] rfl rfl (by kernel_rfl) (fun _ _ _ h => h) (Or.inl ⟨by rfl, ?_⟩) ?_ ?_
    rotate_left
    · intro w'
      go_simp
      with_reducible rfl
    rotate_left
    · simp only [Act.put, List.setIfInBounds_toArray, List.set_cons_zero, List.set_cons_succ, i64_w, i32_w]
      rfl
    refine last_ (i := 11) (N := none) #[true, true, true, true, true, true, true, true, true, true, true, true] rfl rfl (by kernel_rfl) (by decide) (fun K hK => ?_)
    refine skip_ (w1 := ?_) (by rfl) rfl ?_ ?_
    rotate_left
    · go_simp
      rfl
    refine hK.out _ _ ?_
    clear hK K
    refine done_ (by kernel_rfl) ?_
    have HI12 := Aside0.mk (HI11.out.set5 sm HSMR.out)
    generalize W11.setCell ⟨g, 5, none⟩ (.int .u32 sm) = W12 at HI12 ⊢
    clear hf5 hHeld
    have hx2 := blk_cell HI12.out.x2 0
    have hg4 := blk_cell HI12.out.rd.blk 4
    have hf4 := blk_frozen HI12.out.rd.blk 4
    go_wp2
    go_region
    rw [HLF.out]
    have HI13 := Aside0.mk (HI12.out.set4 lf HLR.out).drew
    generalize (W12.setCell ⟨g, 4, none⟩ (.int .i64 lf)).drew = W13 at HI13 ⊢
    clear hx2 hg4 hf4
    have hx2 := blk_cell HI13.out.x2 0
    have hg0 := blk_cell HI13.out.rd.blk 0
    have hg4 := blk_cell HI13.out.rd.blk 4
    have hf0 := blk_frozen HI13.out.rd.blk 0
    by_cases hx : 0 < lf
    · go_wp2
      have hst := step_3s (ps := ps) h1 HKM.out hk0 HLF.out HSM.out hx
      rw [setL_now (f := fun x => { x with A := A8, n := kk, c := c8 }) (f2 := fun x => { x with data := x.data ++ b.take kk }) HI13.out HLEN.out] at hst
      obtain ⟨rfl, rfl⟩ := run_stop (hst) HQ.out
      (repeat apply Exists.intro)
      refine ⟨HI13.out, ?_⟩
      unfold Frm
      (repeat apply Exists.intro)
      rfl
    · have hx9 : lf ≤ 0 := by omega
      go_wp2
      refine Exists.intro k1 ?_
      (repeat apply Exists.intro)
      refine ⟨Nat.lt_succ_self _, ?_, ?_⟩
      · unfold Frm
        (repeat apply Exists.intro)
        rfl
      exact at_3d HQ.out HKK.out HI13.out HLEN.out (step_3d h1 HKM.out hk0 HLF.out HSM.out (Int.not_lt.mpr hx9)) hkm hmc1 hm1s HBL.out HC3.out HBB.out h1
end Go.Proofs.Ytapaodagnpaekaa.Lib
