/- chunk: Push at signing. -/
import Derived.Test.YtapaodagnpaekaaV9
namespace Go.Proofs.Ytapaodagnpaekaa.Lib
open Go.RowKit Go.Proofs.YtapaodagnpaekaaW.PrintWords Go.Proofs.YtapaodagnpaekaaW.PrintLast Go.Proofs.YtapaodagnpaekaaW.PrintMore
attribute [local go_sem] max2_mx min2_mn max_two min_two
set_option linter.unusedVariables false
set_option linter.unusedSimpArgs false
set_option maxHeartbeats 4000000 in
set_option maxRecDepth 100000 in
theorem push_s0 {w W1 : World} {n₀ g : Nat} {hv0 hv ov : Value} {r R : RS} {pcs : List Pc} {ps psF : List PS} {k k1 : Nat} {b : List Int} {A1 : Option Addr} {m1 c1 : Nat} (hk : k ≤ 1000000) (hq : runM (k1 + 1) r b ps = some (R, psF)) (hkk : pcs.length + (k1 + 1) ≤ k) (hI : PI w W1 n₀ g hv0 hv ov r pcs ps) (hnil : Nil3 r.st pcs) (hmc1 : m1 ≤ c1) (hm1s : m1 ≤ 1000000) (hbl : b.length = m1) (hCb : ∀ W', Kept w W' (RdS g hv0) → Kd.C (Kd.int .u8) W' A1 m1 b) (hbb : Bytes b) (h0 : r.st = 0)
    (u7 u9 u10 u11 u12 u25 u26 u27 u28 u29 u30 u31 u32 u33 u34 u35 u36 u37 u38 u39 u40 u41 u42 u43 u44 u45 u46 u47 u48 u49 u50 u51 u52 u53 u54 u55 u56 u57 u58 u59 u60 u61 u62 u63 u64 u65 u66 u67 u68 u69 u70 u71 u72 u73 u74 u75 u76 u77 u78 u79 u80 u81 u82 u83 u84 u85 u86 u87 u88 u89 u90 u91 u92 u93 u94 u95 u96 u97 u98 u99 u100 u101 u102 u103 u104 u105 u106 u107 u108 u109 u110 u111 u112 u113 u114 u115 u116 u117 u118 u119 u120 u121 u122 u123 u124 u125 u126 u127 u128 u129 u130 u131 u132 u133 u134 u135 u136 u137 u138 u139 u140 u141 u142 u143 u144 u145 u146 u147 u148 u149 u150 u151 u152 u153 u154 u155 u156 u157 u158 u159 u160 u161 u162 u163 u164 u165 u166 u167 u168 u169 u170 u171 u172 u173 u174 u175 u176 u177 u178 u179 u180 u181 u182 u183 u184 u185 u186 u187 u188 u189 u190 u191 u192 u193 u194 u195 u196 u197 u198 u199 u200 u201 u202 u203 u204 u205 u206 u207 u208 u209 u210 u211 u212 u213 u214 u215 u216 u217 u218 u219 u220 u221 u222 u223 u224 u225 u226 u227 u228 u229 u230 u231 u232 u233 u234 u235 u236 u237 u238 u239 u240 u241 u242 u243 u244 u245 u246 u247 u248 u249 u250 u251 u252 u253 : Value) {K K1 : Act → World → Prop} (hexit : ∀ a w', WX w n₀ g hv0 R psF a w' → K1 a w') (hround : ∀ a w', WR w n₀ g hv0 k (k1 + 1) R psF a w' → K a w') :
    let Q' : Exit → Act → World → Prop := bodyPost Try.prog Try.f10 fun e w' => PushP w n₀ g hv0 R psF e w'
    Code.wp Try.prog body10 (Exit.then K (Exit.inBlock 0 (Exit.then K1 (Exit.noGoto Q')))) ⟨#[.pointer (some ⟨g, 0, none⟩), .slice A1 m1 c1, .pointer (some ⟨w.heap.size, 0, none⟩), undef, .slice none 0 0, .int .i64 0, .pointer (some ⟨w.heap.size + 1, 0, none⟩), u7, .func (.func 20) #[] #[.pointer (some ⟨w.heap.size + 1, 0, none⟩), .pointer (some ⟨w.heap.size, 0, none⟩)], u9, u10, u11, u12, .pointer (some ⟨g, 0, none⟩), .bool false, .pointer (some ⟨g, 0, none⟩), .pointer (some ⟨g, 0, none⟩), .pointer (some ⟨g, 6, none⟩), .int .i64 0, .bool false, undef, undef, undef, undef, .func (.func 20) #[] #[.pointer (some ⟨w.heap.size + 1, 0, none⟩), .pointer (some ⟨w.heap.size, 0, none⟩)], u25, u26, u27, u28, u29, u30, u31, u32, u33, u34, u35, u36, u37, u38, u39, u40, u41, u42, u43, u44, u45, u46, u47, u48, u49, u50, u51, u52, u53, u54, u55, u56, u57, u58, u59, u60, u61, u62, u63, u64, u65, u66, u67, u68, u69, u70, u71, u72, u73, u74, u75, u76, u77, u78, u79, u80, u81, u82, u83, u84, u85, u86, u87, u88, u89, u90, u91, u92, u93, u94, u95, u96, u97, u98, u99, u100, u101, u102, u103, u104, u105, u106, u107, u108, u109, u110, u111, u112, u113, u114, u115, u116, u117, u118, u119, u120, u121, u122, u123, u124, u125, u126, u127, u128, u129, u130, u131, u132, u133, u134, u135, u136, u137, u138, u139, u140, u141, u142, u143, u144, u145, u146, u147, u148, u149, u150, u151, u152, u153, u154, u155, u156, u157, u158, u159, u160, u161, u162, u163, u164, u165, u166, u167, u168, u169, u170, u171, u172, u173, u174, u175, u176, u177, u178, u179, u180, u181, u182, u183, u184, u185, u186, u187, u188, u189, u190, u191, u192, u193, u194, u195, u196, u197, u198, u199, u200, u201, u202, u203, u204, u205, u206, u207, u208, u209, u210, u211, u212, u213, u214, u215, u216, u217, u218, u219, u220, u221, u222, u223, u224, u225, u226, u227, u228, u229, u230, u231, u232, u233, u234, u235, u236, u237, u238, u239, u240, u241, u242, u243, u244, u245, u246, u247, u248, u249, u250, u251, u252, u253, undef, undef, undef, undef, undef], []⟩ W1 := by
  intro Q'
  have HQ := Aside0.mk hq
  have HKK := Aside0.mk hkk
  have HNIL := Aside0.mk hnil
  have HBL := Aside0.mk hbl
  have HCB := Aside0.mk hCb
  have HBB := Aside0.mk hbb
  obtain ⟨Ah, ch, rfl⟩ := Kd.R_slice hI.rd.row
  obtain ⟨hl, hhl⟩ : ∃ hl, r.held.length = hl := ⟨_, rfl⟩
  have hst := hI.ok.st
  have hl8 := hI.ok.hl
  rw [hhl] at hl8 hI
  have HHL := Aside0.mk hhl
  have HI := Aside0.mk hI
  clear hq hkk hI hnil hbl hCb hbb hhl
  obtain ⟨i5, hi5, hz5⟩ := Option.map_eq_some_iff.1 info5
  have hsz5 : i5.size = 1 := by simp only [Prod.mk.injEq] at hz5; exact hz5.2.1
  conv => arg 2; whnf
  have hx2 := blk_cell HI.out.x2 0
  have hg0 := blk_cell HI.out.rd.blk 0
  have hg1 := blk_cell HI.out.rd.blk 1
  have hx6 := blk_cell HI.out.x6 0
  have hg6 := blk_cell HI.out.rd.blk 6
  have hf0 := blk_frozen HI.out.rd.blk 0
  have hf1 := blk_frozen HI.out.rd.blk 1
  have hf6 := blk_frozen HI.out.rd.blk 6
  have hb0 : (r.st == 0) = true := beq_iff_eq.mpr h0
  by_cases h8 : hl = 8
  · have hb8 : ((hl : Int) == 8) = true := beq_iff_eq.mpr (by omega)
    go_wp2
    go_region
    all_goals go_wp2
    refine Exists.intro k1 ?_
    (repeat apply Exists.intro)
    refine ⟨Nat.lt_succ_self _, ?_, ?_⟩
    · unfold Frm
      (repeat apply Exists.intro)
      rfl
    exact at_held8 HQ.out HKK.out HI.out HNIL.out hmc1 hm1s HBL.out HCB.out HBB.out h0 (HHL.out.trans h8)
  · have hb8 : ((hl : Int) == 8) = false := beq_eq_false_iff_ne.mpr (by omega)
    by_cases hm0 : m1 = 0
    · have hbm : ((m1 : Int) == 0) = true := beq_iff_eq.mpr (by omega)
      go_wp2
      obtain ⟨rfl, rfl⟩ := run_stop (step_0e h0 (by rw [HHL.out]; exact h8) (by rw [HBL.out]; exact hm0)) HQ.out
      (repeat apply Exists.intro)
      refine ⟨HI.out, ?_⟩
      unfold Frm
      (repeat apply Exists.intro)
      rfl
    · have hbm : ((m1 : Int) == 0) = false := beq_eq_false_iff_ne.mpr (by omega)
      have hCW := HCB.out W1 HI.out.kp
      rw [← HBL.out] at hCW
      obtain ⟨ad, rfl, hx0⟩ := Kd.at_int hCW 0 (by omega) (by have := HBL.out; omega)
      have HCW := Aside0.mk hCW
      clear hCW
      have hm1p : ((0 : Int) < (m1 : Int)) = True := eq_true (by omega)
      have hx0' := hx0
      simp only [Int.toNat_zero] at hx0
      simp only [Int.toNat_zero, Addr.add_zero'] at hx0'
      have hlt : hl < 8 := by omega
      have hlt2 : ((hl : Int) < 8) = True := eq_true (by omega)
      have hlt3 : hl < (⟨#[137, 80, 78, 71, 13, 10, 26, 10]⟩ : ByteArray).size := hlt
      have hlt0 : ((0 : Int) ≤ (hl : Int)) = True := eq_true (by omega)
      obtain ⟨x0, hx0e⟩ : ∃ x0, rd b 0 = x0 := ⟨_, rfl⟩
      have HX0 := Aside0.mk hx0e
      rw [hx0e] at hx0 hx0'
      clear hx0e
      go_wp2
      go_quiet (fail)
      all_goals go_wp2
      · rename_i hcmp
        have hne : b.getD 0 0 ≠ firstL.getD hl 0 := by
          have h1 := bne_iff_ne.1 hcmp
          rw [first_at hl hlt, ← HX0.out] at h1
          exact h1
        obtain ⟨rfl, rfl⟩ := run_stop (step_0x h0 (by rw [HHL.out]; exact h8) (by rw [HBL.out]; exact hm0) (by rw [HHL.out]; exact hne)) HQ.out
        (repeat apply Exists.intro)
        refine ⟨(HI.out.drewN nq).set6 3, ?_⟩
        unfold Frm
        (repeat apply Exists.intro)
        rfl
      · rename_i hcmp
        have heq : b.getD 0 0 = firstL.getD hl 0 := by
          have h1 := bne_eq_false_iff_eq.1 hcmp
          rw [first_at hl hlt, ← HX0.out] at h1
          exact h1
        have HEQ := Aside0.mk heq
        have hI5 := HI.out.drewN nq
        obtain ⟨W5, hW5⟩ : ∃ W5, W1.drewN nq = W5 := ⟨_, rfl⟩
        rw [hW5] at hI5 ⊢
        clear hm1p hW5 hx0 hx0' hx2 hg1 hcmp heq hx6 hg6
        have HI5 := Aside0.mk hI5.drew
        clear hI5
        have HS5 := Aside0.mk (pi_reads HI5.out HCB.out HBL.out (by omega))
        have HX5 := Aside0.mk (show rd b 0 = x0 from HX0.out)
        have hf1 := blk_frozen HI5.out.rd.blk 1
        have hcf := cut_from (P := Try.prog) 26 5 .i64 Try.underlying26 hi5 1 hsz5 (some ad) m1 c1 (1 : Int) (by decide) (by omega)
        rw [show (1 : Int).toNat = 1 from rfl] at hcf
        have HLR := Aside0.mk (show ∀ W : World, Kd.C (Kd.int .u8) (W.alloc (.cells #[.int .u8 x0] 5)) (some ⟨W.heap.size, 0, none⟩) 1 [x0] from fun W => (Kd.R_reads' (lit_row W [x0] W.heap.size (Nat.le_refl _) (by simp))).2.2)
        have hat26 := at26 ad m1 c1 (by omega)
        have hmq : (0 : Int) < (m1 : Int) := by omega
        have hmq2 : (1 : Int) ≤ (m1 : Int) := by omega
        have HN6 := Aside0.mk (show n₀ ≤ (W5.drew.alloc (.cells #[.int .u8 x0] 5)).heap.size from by have h1 := HI5.out.n0; have h2 := HI5.out.kp.1; rw [World.size_alloc]; omega)
        have HZ := Aside0.mk (show (r.held.length + 1) * 1 ≤ 140737488355328 from by have := HHL.out; omega)
        obtain ⟨AA, hAA⟩ : ∃ AA, (if c1 = 1 then some ad else (some ad).map (·.add (1 * 1))) = AA := ⟨_, rfl⟩
        rw [hAA] at hcf
        have HAA := Aside0.mk hAA
        clear hAA
        have HL9 := Aside0.mk (show (r.held ++ [x0]).length = hl + 1 from by rw [List.length_append, List.length_singleton, HHL.out])
        have HBY9 := Aside0.mk (show Bytes (r.held ++ [x0]) from bytes_snoc HI5.out.ok.hb HBB.out HX5.out (by rw [HBL.out]; exact hm0))
        have HLL := Aside0.mk (show (r.held ++ [x0]).length ≤ 8 ∧ (r.st ≠ 0 → (r.held ++ [x0]).length ≤ 4) from ⟨by rw [HL9.out]; omega, fun h => absurd h0 h⟩)
        refine start_ (n := 16) (S := fun w' => w'.cell? ⟨w.heap.size, 0, none⟩ = some (.pointer (some ⟨g, 0, none⟩)) ∧ w'.cell? ⟨g, 1, none⟩ = some (.slice Ah hl ch) ∧ w'.cell? ad = some (.int .u8 x0)) (ds := [14, 15]) #[false, false, false, false, false, false, false, false, false, false, false, false, false, false, false, false] (by kernel_rfl) rfl rfl (by rw [← HX5.out]; exact HS5.out) (fun hHeld => ?_)
        generalize W5.drew = W6 at hHeld HI5 HS5 HN6 hf1 ⊢
        refine take_ (i := 0) (N := some 59) (v := ?_) (a' := ?_) #[true, false, false, false, false, false, false, false, false, false, false, false, false, false, false, false] rfl rfl (by kernel_rfl) (fun _ _ _ h => h) (Or.inl ⟨by rfl, ?_⟩) hHeld ?_ ?_
        rotate_left
        · rintro w' ⟨s0, s1, s2⟩
          go_simp
          with_reducible rfl
        rotate_left
        · simp only [Act.put, List.setIfInBounds_toArray, List.set_cons_zero, List.set_cons_succ, i64_w, i32_w]
          rfl
        refine take_ (i := 1) (N := some 60) (v := ?_) (a' := ?_) #[true, true, false, false, false, false, false, false, false, false, false, false, false, false, false, false] rfl rfl (by kernel_rfl) (fun _ _ _ h => h) (Or.inl ⟨by rfl, ?_⟩) hHeld ?_ ?_
        rotate_left
        · rintro w' ⟨s0, s1, s2⟩
          go_simp
          with_reducible rfl
        rotate_left
        · simp only [Act.put, List.setIfInBounds_toArray, List.set_cons_zero, List.set_cons_succ, i64_w, i32_w]
          rfl
        refine pure_ (i := 2) (N := some 61) (v := ?_) (a' := ?_) #[true, true, true, false, false, false, false, false, false, false, false, false, false, false, false, false] rfl rfl (by kernel_rfl) (fun _ _ _ h => h) (Or.inl ⟨by rfl, ?_⟩) ?_ ?_
        rotate_left
        · intro w'
          go_simp
          with_reducible rfl
        rotate_left
        · simp only [Act.put, List.setIfInBounds_toArray, List.set_cons_zero, List.set_cons_succ, i64_w, i32_w]
          rfl
        refine pure_ (i := 3) (N := some 62) (v := ?_) (a' := ?_) #[true, true, true, true, false, false, false, false, false, false, false, false, false, false, false, false] rfl rfl (by kernel_rfl) (fun _ _ _ h => h) (Or.inl ⟨by rfl, ?_⟩) ?_ ?_
        rotate_left
        · intro w'
          go_simp
          with_reducible rfl
        rotate_left
        · simp only [Act.put, List.setIfInBounds_toArray, List.set_cons_zero, List.set_cons_succ, i64_w, i32_w]
          rfl
        refine take_ (i := 4) (N := some 63) (v := ?_) (a' := ?_) #[true, true, true, true, true, false, false, false, false, false, false, false, false, false, false, false] rfl rfl (by kernel_rfl) (fun _ _ _ h => h) (Or.inl ⟨by rfl, ?_⟩) hHeld ?_ ?_
        rotate_left
        · rintro w' ⟨s0, s1, s2⟩
          go_simp
          with_reducible rfl
        rotate_left
        · simp only [Act.put, List.setIfInBounds_toArray, List.set_cons_zero, List.set_cons_succ, i64_w, i32_w]
          rfl
        refine pure_ (i := 5) (N := some 64) (v := ?_) (a' := ?_) #[true, true, true, true, true, true, false, false, false, false, false, false, false, false, false, false] rfl rfl (by kernel_rfl) (fun _ _ _ h => h) (Or.inl ⟨by rfl, ?_⟩) ?_ ?_
        rotate_left
        · intro w'
          go_simp
          with_reducible rfl
        rotate_left
        · simp only [Act.put, List.setIfInBounds_toArray, List.set_cons_zero, List.set_cons_succ, i64_w, i32_w]
          rfl
        refine pure_ (i := 6) (N := some 65) (v := ?_) (a' := ?_) #[true, true, true, true, true, true, true, false, false, false, false, false, false, false, false, false] rfl rfl (by kernel_rfl) (fun _ _ _ h => h) (Or.inl ⟨by rfl, ?_⟩) ?_ ?_
        rotate_left
        · intro w'
          go_simp
          with_reducible rfl
        rotate_left
        · simp only [Act.put, List.setIfInBounds_toArray, List.set_cons_zero, List.set_cons_succ, i64_w, i32_w]
          rfl
        refine take_ (i := 7) (N := some 66) (v := ?_) (a' := ?_) #[true, true, true, true, true, true, true, true, false, false, false, false, false, false, false, false] rfl rfl (by kernel_rfl) (fun _ _ _ h => h) (Or.inl ⟨by rfl, ?_⟩) hHeld ?_ ?_
        rotate_left
        · rintro w' ⟨s0, s1, s2⟩
          go_simp
          with_reducible rfl
        rotate_left
        · simp only [Act.put, List.setIfInBounds_toArray, List.set_cons_zero, List.set_cons_succ, i64_w, i32_w]
          rfl
        refine pure_ (i := 10) (N := some 69) (v := ?_) (a' := ?_) #[true, true, true, true, true, true, true, true, false, false, true, false, false, false, false, false] rfl rfl (by kernel_rfl) (fun _ _ _ h => h) (Or.inl ⟨by rfl, ?_⟩) ?_ ?_
        rotate_left
        · intro w'
          go_simp
          with_reducible rfl
        rotate_left
        · simp only [Act.put, List.setIfInBounds_toArray, List.set_cons_zero, List.set_cons_succ, i64_w, i32_w]
          rfl
        refine pure_ (i := 11) (N := some 70) (v := ?_) (a' := ?_) #[true, true, true, true, true, true, true, true, false, false, true, true, false, false, false, false] rfl rfl (by kernel_rfl) (fun _ _ _ h => h) (Or.inl ⟨by rfl, ?_⟩) ?_ ?_
        rotate_left
        · intro w'
          go_simp
          with_reducible rfl
        rotate_left
        · simp only [Act.put, List.setIfInBounds_toArray, List.set_cons_zero, List.set_cons_succ, i64_w, i32_w]
          rfl
        refine one_ (i := 8) (N := some 67) #[true, true, true, true, true, true, true, true, true, false, true, true, false, false, false, false] rfl rfl (by kernel_rfl) (by decide) (fun K hK => ?_)
        refine value_ (v := ?_) (w1 := ?_) (by rfl) rfl ?_ ?_
        rotate_left 2
        · go_simp
          first | (constructor <;> rfl) | rfl
        have HI7 := Aside0.mk (HI5.out.ext (below_alloc (Below.refl _ _) (.cells #[.int .u8 x0] 5)))
        refine hK.out _ _ (by rw [← HX5.out]; rw [← HX5.out] at HI7; exact pi_reads HI7.out HCB.out HBL.out (by omega)) (fun hHeld2 => ?_)
        clear hK K
        refine norm_ (a' := ?_) ?_ ?_
        rotate_left
        · show Act.put _ (some 67) _ = _
          simp only [Act.put, List.setIfInBounds_toArray, List.set_cons_zero, List.set_cons_succ, i64_w, i32_w]
          rfl
        refine one_ (i := 9) (N := some 68) #[true, true, true, true, true, true, true, true, true, true, true, true, false, false, false, false] rfl rfl (by kernel_rfl) (by decide) (fun K hK => ?_)
        refine Kd.R_append_rows_step (Kd.int .u8) (w0 := W6.alloc (.cells #[.int .u8 x0] 5)) n₀ (by rfl) (.tmp 63) (.tmp 67) 26 5 (.int .u8 0) 1 rfl Try.underlying26 info5 rfl (by decide) (by decide) (.slice Ah hl ch) r.held [x0] (some ⟨W6.heap.size, 0, none⟩) 1 1 (fun _ => True) (fun _ => False) (by rfl) (by rfl) HI7.out.rd.row (HLR.out _) (fun _ _ h => h) (fun _ h => h.elim) (fun _ _ => trivial) (Below.refl _ _) HN6.out HZ.out ?_
        intro v8 w8 hR8 hb8 hg8 hat8
        obtain ⟨A8, c8, rfl, hR8⟩ := row_form HL9.out hR8
        have hm1f := blk_frozen (HI7.out.grown hg8).1 1
        have HS8 := Aside0.mk (pi_readsg HI7.out hg8 HCB.out HBL.out (by omega))
        have hm1 := HS8.out.2.1
        refine hK.out _ _ (by rw [← HX5.out]; exact HS8.out) (fun hHeld3 => ?_)
        clear hK K
        have HP8 := Aside0.mk (HI7.out.app hR8 hb8 hg8 hat8 HBY9.out HLL.out)
        clear hR8 hb8 hg8 hat8
        refine norm_ (a' := ?_) ?_ ?_
        rotate_left
        · show Act.put _ (some 68) _ = _
          simp only [Act.put, List.setIfInBounds_toArray, List.set_cons_zero, List.set_cons_succ, i64_w, i32_w]
          rfl
        refine pure_ (i := 12) (N := some 71) (v := ?_) (a' := ?_) #[true, true, true, true, true, true, true, true, true, true, true, true, true, false, false, false] rfl rfl (by kernel_rfl) (fun _ _ _ h => h) (Or.inl ⟨by rfl, ?_⟩) ?_ ?_
        rotate_left
        · intro w'
          go_simp
          with_reducible rfl
        rotate_left
        · simp only [Act.put, List.setIfInBounds_toArray, List.set_cons_zero, List.set_cons_succ, i64_w, i32_w]
          rfl
        refine pure_ (i := 13) (N := some 72) (v := ?_) (a' := ?_) #[true, true, true, true, true, true, true, true, true, true, true, true, true, true, false, false] rfl rfl (by kernel_rfl) (fun _ _ _ h => h) (Or.inl ⟨by rfl, ?_⟩) ?_ ?_
        rotate_left
        · intro w'
          go_simp
          with_reducible rfl
        rotate_left
        · simp only [Act.put, List.setIfInBounds_toArray, List.set_cons_zero, List.set_cons_succ, i64_w, i32_w]
          rfl
        refine last_ (i := 14) (N := none) #[true, true, true, true, true, true, true, true, true, true, true, true, true, true, true, false] rfl rfl (by kernel_rfl) (by decide) (fun K hK => ?_)
        refine skip_ (w1 := ?_) (by rfl) rfl ?_ ?_
        rotate_left
        · go_simp
          rfl
        refine hK.out _ _ ?_
        clear hK K
        refine last_ (i := 15) (N := some 1) #[true, true, true, true, true, true, true, true, true, true, true, true, true, true, true, true] rfl rfl (by kernel_rfl) (by decide) (fun K hK => ?_)
        refine value_ (v := ?_) (w1 := ?_) (by rfl) rfl ?_ ?_
        rotate_left 2
        · go_simp
          first | (constructor <;> rfl) | rfl
        refine hK.out _ _ ?_
        clear hK K
        refine done_ (by kernel_rfl) ?_
        go_wp2
        refine Exists.intro k1 ?_
        (repeat apply Exists.intro)
        refine ⟨Nat.lt_succ_self _, ?_, ?_⟩
        · unfold Frm
          (repeat apply Exists.intro)
          rfl
        exact at_0a HQ.out HKK.out HP8.out HX5.out HNIL.out hmc1 hm1s HBL.out HCB.out HBB.out h0 (by rw [HHL.out]; exact h8) hm0 (by rw [HHL.out]; exact HEQ.out) HAA.out
end Go.Proofs.Ytapaodagnpaekaa.Lib
