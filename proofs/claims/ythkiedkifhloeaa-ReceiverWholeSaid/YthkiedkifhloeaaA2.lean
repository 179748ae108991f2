/- ReceiverWhole: the row. -/
import Derived.Test.YthkiedkifhloeaaV8
namespace Go.Proofs.Ythkiedkifhloeaa.Lib
open Go.RowKit Go.Proofs.YthkiedkifhloeaaW.PrintWords Go.Proofs.YthkiedkifhloeaaW.PrintLast Go.Proofs.YthkiedkifhloeaaW.PrintMore
attribute [local go_sem] max2_int min2_int max_two min_two max_three min_three max_four min_four
set_option linter.unusedVariables false
set_option linter.unusedSimpArgs false
theorem its_step {w : World} {A0 : Option Addr} {M c0 k : Nat} {text : List Int} (hM : text.length = M) (hc : M ≤ c0) (hC : Kd.C (Kd.int .u8) w A0 M text) {j i mm : Nat} {hs : List Hd} (h : Its w hs (itsL k text j)) (hi : i = j * k) (hj : i < M) (hk : 0 < k) (hmm : mm = min M (i + k)) :
    Its w (hs ++ [((if c0 = i then A0 else A0.map (·.add (i * 1))), mm - i, c0 - i)]) (itsL k text (j + 1)) := by
  rw [itsL_succ, ← hi]
  subst hM
  have hdl : (text.drop i).length = text.length - i := List.length_drop
  have ht : (text.drop i).take k = (text.drop i).take (mm - i) := by
    by_cases hkl : k ≤ text.length - i
    · rw [show mm - i = k from by omega]
    · rw [List.take_of_length_le (by omega), List.take_of_length_le (by omega)]
  have hl : ((text.drop i).take (mm - i)).length = mm - i := by
    rw [List.length_take, hdl]
    omega
  have h1 := Kd.C_drop (m := i) (c := c0) hC (by omega) hc
  have h2 := Kd.C_take (m := mm - i) h1 (by rw [hdl]; omega)
  rw [ht]
  refine Rel2.snoc ⟨hl.symm, ?_, h2⟩ h
  rw [hl]
  show mm - i ≤ c0 - i
  omega
theorem wi_take_n {w W : World} {g mb n : Nat} {ww nx : Int} {v10 v14 : Value} {hs : List Hd} {its : List (List Int)} {L : List (Int × List Int)} {told : List Int} (hit : its.length = n) (h : WI W w.heap.size g mb (n : Int) ww nx v10 v14 hs L told) (hp : PW its ww nx L told) (hI : Its w hs its) (hb : Below w.heap.size w W) (hl : its.flatten.length ≤ 300) (hn : n ≤ 1048577) (a : Nat) (ha : a < n) {A : Option Addr} {m c : Nat} (hx : hs.getD a (none, 0, 0) = (A, m, c)) :
    Calls Try.prog 10 #[.pointer (some ⟨g, 0, none⟩), .int .i64 (a : Int), .slice A m c] W fun e W' => ∃ Ao No co bb nx' L' T, e = .returned (.tuple #[.slice Ao No co, .bool bb]) ∧ WI W' w.heap.size g mb (n : Int) ww nx' v10 v14 hs L' told ∧ Told W' w.heap.size (NotOf v14) (.slice Ao No co) T ∧ T.length = No ∧
      PW its ww nx' L' (told ++ T.flatten) ∧ nx ≤ nx' ∧ (nx = a → nx < nx') ∧ Below w.heap.size w W' := by
  subst hit
  exact wi_take h hp hI hb hl hn a ha hx
/-- one of the parts that were told -/
theorem Told.at_ {W : World} {B : Nat} {ok : Nat → Prop} {A : Option Addr} {N c : Nat} {T : List (List Int)} (h : Told W B ok (.slice A N c) T) (hN : T.length = N) (s : Nat) (hs : s < N) :
    ∃ go A1 m1 c1, A = some ⟨go, 0, none⟩ ∧ W.cell? ⟨go, s, none⟩ = some (.slice A1 m1 c1) ∧ (T.getD s []).length = m1 ∧ m1 ≤ c1 ∧ Kd.C (Kd.int .u8) W A1 m1 (T.getD s []) := by
  obtain ⟨hs2, h1, h2⟩ := h.out
  have hl := h2.length
  obtain ⟨go, c2, e, _⟩ := rowA_form (hl.trans hN) (by omega) h1
  injection e with e _ _
  subst e
  obtain ⟨cs, _, hM, hc, _⟩ := Kd.R_elem h1 (none, 0, 0) (s : Int) (by omega) (by omega)
  obtain rfl : cs = [.slice (hs2.getD (s : Int).toNat (none, 0, 0)).1 (hs2.getD (s : Int).toNat (none, 0, 0)).2.1 (hs2.getD (s : Int).toNat (none, 0, 0)).2.2] := hM
  have h5 := hc 0 _ rfl
  have e1 : ksl.sz = 1 := rfl
  rw [e1] at h5
  simp only [Int.toNat_natCast, Nat.mul_one, Nat.add_zero] at h5
  have hsl : s < hs2.length := by omega
  have hr := h2.at_ s hs2[s] (T.getD s []) (List.getElem?_eq_getElem hsl) (by rw [List.getD_eq_getElem?_getD, List.getElem?_eq_getElem (by omega)]; rfl)
  rw [List.getD_eq_getElem?_getD, List.getElem?_eq_getElem hsl] at h5
  obtain ⟨hm, hmc, hC⟩ := Kd.R_reads' hr
  refine ⟨go, _, _, _, rfl, h5, hm.symm, hmc, ?_⟩
  have hC2 := hC
  rw [← hm] at hC2
  exact hC2
theorem flat_snoc (T : List (List Int)) (s : Nat) (h : s < T.length) : (T.take (s + 1)).flatten = (T.take s).flatten ++ T.getD s [] := by
  rw [List.take_succ_eq_append_getElem h, List.flatten_append, List.flatten_singleton, List.getD_eq_getElem?_getD, List.getElem?_eq_getElem h]
  rfl
/-- the items that are told first come first -/
theorem progress {n i a : Nat} {nx nx' : Int} (h : ∀ j : Nat, j < n → 2 * j < i → (j : Int) < nx) (hle : nx ≤ nx') (hlt : nx = a → nx < nx') (hev : i % 2 = 0 → a = (i / 2) % n) (h0 : 0 ≤ nx) : ∀ j : Nat, j < n → 2 * j < i + 1 → (j : Int) < nx' := by
  intro j hj hji
  by_cases h2 : 2 * j < i
  · have := h j hj h2
    omega
  · have hi : i = 2 * j := by omega
    have ha : a = j := by
      rw [hev (by omega), hi, Nat.mul_div_cancel_left _ (by omega), Nat.mod_eq_of_lt hj]
    by_cases hn : (j : Int) < nx
    · omega
    · have hnx : (j : Int) ≤ nx := by
        by_cases hj0 : j = 0
        · omega
        · have := h (j - 1) (by omega) (by omega)
          omega
      have := hlt (by omega)
      omega
set_option maxHeartbeats 4000000 in
set_option maxRecDepth 100000 in
theorem whole_row (A0 : Option Addr) (c0 : Nat) (text : List Int) (size win : Int) (A3 : Option Addr) (c3 : Nat) (order : List Int) (w : World) (hr0 : Kd.C (Kd.int .u8) w A0 text.length text) (hc0 : text.length ≤ c0) (hw0 : text.length ≤ 9223372036854775807 ∧ text.length * 1 ≤ 140737488351232 ∧ ∀ b ∈ text, (Lit.int .u8 b).wf = true) (hw1 : (Lit.int .u8 size).wf = true) (hw2 : (Lit.int .u8 win).wf = true)
    (hr3 : Kd.C (Kd.int .u8) w A3 order.length order) (hc3 : order.length ≤ c3) (hw3 : order.length ≤ 9223372036854775807 ∧ order.length * 1 ≤ 140737488351232 ∧ ∀ b ∈ order, (Lit.int .u8 b).wf = true) :
    Calls Try.prog 3 #[.slice A0 text.length c0, .int .u8 size, .int .u8 win, .slice A3 order.length c3] w fun e w' => e = .returned (.bool true) ∧ Below w.heap.size w w' := by
  have hs0 := Bytes.of (l := [size]) (by simpa using hw1) size (by simp)
  have hs1 := Bytes.of (l := [win]) (by simpa using hw2) win (by simp)
  have HTB := Aside0.mk (Bytes.of hw0.2.2)
  have HOB := Aside0.mk (Bytes.of hw3.2.2)
  have hm9 : text.length ≤ 140737488351232 := by have := hw0.2.1; omega
  have ho9 : order.length ≤ 140737488351232 := by have := hw3.2.1; omega
  obtain ⟨M, hM⟩ : ∃ M, text.length = M := ⟨_, rfl⟩
  obtain ⟨O, hO⟩ : ∃ O, order.length = O := ⟨_, rfl⟩
  rw [hM] at hr0 hc0 hm9 ⊢
  rw [hO] at hr3 hc3 ho9 ⊢
  have HM := Aside0.mk hM
  have HO := Aside0.mk hO
  have HR0 := Aside0.mk hr0
  have HR3 := Aside0.mk hr3
  obtain ⟨k, hk, hk9⟩ : ∃ k : Nat, 1 + size % 9 = (k : Int) ∧ 1 ≤ k ∧ k ≤ 9 := by
    have h3 := Int.emod_nonneg size (show (9 : Int) ≠ 0 by omega)
    have h4 := Int.emod_lt_of_pos size (show 0 < (9 : Int) by omega)
    exact ⟨(1 + size % 9).toNat, by omega, by omega, by omega⟩
  have HK := Aside0.mk hk
  obtain ⟨ww, hww, hw64⟩ : ∃ ww : Int, 1 + win % 64 = ww ∧ 1 ≤ ww ∧ ww ≤ 64 := by
    have h3 := Int.emod_nonneg win (show (64 : Int) ≠ 0 by omega)
    have h4 := Int.emod_lt_of_pos win (show 0 < (64 : Int) by omega)
    exact ⟨1 + win % 64, rfl, by omega, by omega⟩
  have HWW := Aside0.mk (And.intro hww hw64)
  clear hr0 hw0 hw1 hw2 hr3 hw3 hM hO hww hw64 hk
  go_enter Try.func3, Try.ntmps3
  go_wp2_with fail
  refine (fixed_walk w).mono ?_
  rintro e w1 ⟨rfl, hb1⟩
  have HB1 := Aside0.mk hb1
  clear hb1
  by_cases h300 : 300 < M
  · have d0 : decide (300 < (M : Int)) = true := decide_eq_true (by omega)
    go_wp2
    go_ret
    exact ⟨rfl, HB1.out⟩
  · have d0 : decide (300 < (M : Int)) = false := decide_eq_false (by omega)
    go_wp2
    rw [HK.out]
    go_loopw [10, 11] (fun v10 v11 wr => ∃ (j i : Nat) (hs : List Hd), v11 = .int .i64 i ∧ i ≤ M + 8 ∧ j ≤ i ∧ Aside0 (i = j * k) ∧ Aside0 (Kd.R ksl 22 wr w.heap.size (fun _ => True) v10 hs) ∧ Aside0 (Its w hs (itsL k text j)) ∧ Aside0 (Below w.heap.size w wr)) (fun _ v11 _ => M - (intOf v11).toNat)
    case atStart => exact ⟨0, 0, [], rfl, Nat.zero_le _, Nat.le_refl _, ⟨by simp⟩, ⟨Kd.R_nil _ _ _ _ _⟩, ⟨trivial⟩, HB1⟩
    case round =>
      obtain ⟨j, i, hs, rfl, hi8, hji, HIJ, HS, HI, HB⟩ := hrel
      by_cases hiM : i < M
      · obtain ⟨mm, hmi⟩ : ∃ mm : Nat, mm = min M (i + k) := ⟨_, rfl⟩
        have d1 : decide ((i : Int) < (M : Int)) = true := decide_eq_true (by omega)
        have h0k : 0 < k := by omega
        have hmb : i ≤ mm ∧ mm ≤ M := by omega
        have hj9 : (j + 1) * 24 ≤ 140737488355328 := by omega
        have hi9 : i + k ≤ M + 8 := by omega
        have hj10 : j + 1 ≤ i + k := by omega
        have hms : M - (i + k) < M - i := by omega
        have HI2 := Aside0.mk (its_step HM.out hc0 HR0.out HI.out HIJ.out hiM h0k hmi)
        obtain ⟨i0, hi0, _, hs0', _⟩ := info_parts info5
        have hcut := cut_mid (P := Try.prog) 22 5 .i64 .i64 Try.underlying22 hi0 1 hs0' A0 M c0 (i : Int) (mm : Int) (by omega) (by omega) (by omega) hc0
        simp only [Int.toNat_natCast] at hcut
        obtain ⟨A1, hA1⟩ : ∃ A1, (if c0 = i then A0 else A0.map (·.add (i * 1))) = A1 := ⟨_, rfl⟩
        obtain ⟨m1, hm1⟩ : ∃ m1, mm - i = m1 := ⟨_, rfl⟩
        obtain ⟨c1, hc1⟩ : ∃ c1, c0 - i = c1 := ⟨_, rfl⟩
        rw [hA1, hm1, hc1] at hcut HI2
        have HLN := Aside0.mk (show (hs.length + 1) * 24 ≤ 140737488355328 from by have h := HI.out.length; rw [itsL_length] at h; rw [h]; exact hj9)
        have HBZ := Aside0.mk HB.out.size
        have hmm : (if (i : Int) + (k : Int) < (M : Int) then (i : Int) + (k : Int) else (M : Int)) = (mm : Int) := by
          rw [hmi]
          split <;> omega
        have HIK := Aside0.mk (show i + k = (j + 1) * k from by rw [HIJ.out, Nat.succ_mul])
        have HJJ := Aside0.mk (And.intro hi9 (And.intro hj10 hms))
        clear hA1 hm1 hc1 hmi hs0' hi0 hmb hj9 hi9 hj10 hms h0k
        obtain ⟨A10, c10, rfl⟩ := Kd.R_slice HS.out
        go_wp2_with (at_builtin; go_loud (refine Kd.R_append ksl (w0 := w) w.heap.size rfl (.tmp 37) (.tmp 47) 24 22 (.slice none 0 0) 24 rfl Try.underlying24 info22 rfl (by decide) (by decide) (.slice A10 hs.length c10) hs (A1, m1, c1) [.slice A1 m1 c1] (fun _ => True) (fun _ => False) rfl rfl rfl (fun _ h => h.elim) (fun _ _ => trivial) HS.out HB.out HBZ.out HLN.out ?_); intro v5 w5 hR5 hb5 hg5 hat5; clear hat5 hg5; have HR5 := Aside0.mk hR5; have HB5 := Aside0.mk hb5; clear hR5 hb5)
        go_roundw
        case rel => exact ⟨j + 1, i + k, hs ++ [(A1, m1, c1)], by push_cast; rfl, HJJ.out.1, HJJ.out.2.1, HIK, HR5, HI2, HB5⟩
        case measure =>
          have h := HJJ.out.2.2
          show M - ((i : Int) + (k : Int)).toNat < M - i
          rw [show ((i : Int) + (k : Int)).toNat = i + k from by omega]
          exact h
      · have d1 : decide ((i : Int) < (M : Int)) = false := decide_eq_false (by omega)
        obtain ⟨A10, c10, rfl⟩ := Kd.R_slice HS.out
        have hjl := HI.out.length
        rw [itsL_length] at hjl
        rw [hjl] at HS ⊢
        have HIT := Aside0.mk (itsL_length k text j)
        have HFL := Aside0.mk (show (itsL k text j).flatten = text from by rw [itsL_flat, ← HIJ.out, List.take_of_length_le (by rw [HM.out]; omega)])
        have hj300 : j ≤ 400 := by omega
        have HJ3 := Aside0.mk (show j ≤ 300 ∨ True from .inr trivial)
        obtain ⟨its, hits⟩ : ∃ its, itsL k text j = its := ⟨_, rfl⟩
        rw [hits] at HI HIT HFL
        clear hits hjl HJ3
        go_wp2_with fail
        rw [HWW.out.1]
        refine (rv_new (j : Int) ww wr (NotOf (.slice none 0 0)) ⟨by omega, by omega⟩ HWW.out.2).mono ?_
        rintro e w2 ⟨g, mb, rfl, hV2, hb2⟩
        have HB2 := Aside0.mk (below_then HB.out HB.out.size hb2)
        have HWI := Aside0.mk (show WI w2 w.heap.size g mb (j : Int) ww 0 (.slice A10 j c10) (.slice none 0 0) hs [] [] from ⟨⟨hV2.rv.imp (fun F h => ⟨h.1, h.2.1.mono (fun a b hab => Kd.R_lower hab HB.out.size), h.2.2⟩), Nat.le_trans HB.out.size hV2.ge.1, Nat.le_trans HB.out.size hV2.ge.2⟩, Kd.R_below HS.out hb2, Kd.R_nil _ _ _ _ _⟩)
        have HPW := Aside0.mk (PW.new its ww (by rw [HIT.out]; omega) HWW.out.2)
        clear hV2 hb2 HS HB
        go_wp2
        go_loopw [14, 15, 16, 17, 18, 20] (fun v14 v15 v16 v17 v18 v20 wr => ∃ (i2 : Nat) (u16 u17 u18 u20 : Value) (nx : Int) (L : List (Int × List Int)) (told : List Int), u16 = v16 ∧ u17 = v17 ∧ u18 = v18 ∧ u20 = v20 ∧ v15 = .int .i64 i2 ∧ i2 ≤ 20000 ∧ Aside0 (WI wr w.heap.size g mb (j : Int) ww nx (.slice A10 j c10) v14 hs L told) ∧ Aside0 (PW its ww nx L told) ∧ Aside0 (∀ j2 : Nat, j2 < j → 2 * j2 < i2 → (j2 : Int) < nx) ∧ Aside0 (Below w.heap.size w wr)) (fun _ v15 _ _ _ _ _ => 20000 - (intOf v15).toNat)
        case atStart => exact ⟨0, _, _, _, _, 0, [], [], rfl, rfl, rfl, rfl, rfl, Nat.zero_le _, HWI, HPW, ⟨fun j2 _ h => absurd h (by omega)⟩, HB2⟩
        case round =>
          obtain ⟨i2, u16, u17, u18, u20, nx, L, told, rfl, rfl, rfl, rfl, rfl, hi2, HW, HP, HG, HBX⟩ := hrel
          by_cases hi20 : i2 < 20000
          · have d2 : decide ((i2 : Int) < 20000) = true := decide_eq_true (by omega)
            go_wp2_with fail
            refine (rv_done HW.out.rv).mono ?_
            rintro e w3 ⟨rfl, q3, rfl⟩
            obtain ⟨w3, hw3⟩ : ∃ w3, wr.drewN q3 = w3 := ⟨_, rfl⟩
            have hb3 : Below wr.heap.size wr w3 := by rw [← hw3]; exact pw_below_drewN (Below.refl _ _) q3
            rw [hw3]
            replace HW := Aside0.mk (HW.out.below hb3)
            replace HBX := Aside0.mk (below_then HBX.out HBX.out.size hb3)
            clear hw3 hb3
            by_cases hdone : nx = (j : Int)
            · rw [show (nx == (j : Int)) = true from beq_iff_eq.2 hdone]
              have HTX := Aside0.mk (show told = text from by rw [HP.out.done (by rw [HIT.out]; exact hdone), HFL.out])
              obtain ⟨A14, c14, rfl⟩ := Kd.R_slice HW.out.tl
              have htl : told.length = M := by rw [HTX.out]; exact HM.out
              rw [htl] at HW ⊢
              by_cases hjz : j = 0
              · have hbz : ((j : Int) == 0) = true := beq_iff_eq.2 (by omega)
                go_wp2
                go_ret
                exact ⟨rfl, HBX.out⟩
              · have hbz : ((j : Int) == 0) = false := beq_eq_false_iff_ne.2 (by omega)
                go_wp2_with fail
                refine (rv_done HW.out.rv).mono ?_
                rintro e w8 ⟨rfl, q8, rfl⟩
                rw [show (nx == (j : Int)) = true from beq_iff_eq.2 hdone]
                have hct : Kd.C (Kd.int .u8) (w3.drewN q8) A14 M text := by
                  have h1 := (Kd.R_reads' (Kd.R_drewN HW.out.tl q8)).2.2
                  rw [htl, HTX.out] at h1
                  exact h1
                have hca := Kd.C_string (P := Try.prog) (A := A14) (c := c14) Try.underlying22 Try.underlying5 Try.underlying9 hct
                have hcb := Kd.C_string (P := Try.prog) (A := A0) (c := c0) Try.underlying22 Try.underlying5 Try.underlying9 (Kd.C_below HR0.out (pw_below_drewN HBX.out q8))
                obtain ⟨ss, hss⟩ : ∃ ss, strOfNums text = ss := ⟨_, rfl⟩
                rw [hss] at hca hcb
                clear hct hss htl
                go_wp2
                go_ret
                exact ⟨by first | rfl | simp, pw_below_drewN HBX.out q8⟩
            · rw [show (nx == (j : Int)) = false from beq_eq_false_iff_ne.2 hdone]
              have hj0 : 0 < j := by have h1 := HP.out.b.n0; have h2 := HP.out.b.n1; rw [HIT.out] at h2; omega
              obtain ⟨a, ha0', haj0, haq⟩ : ∃ a : Nat, ((i2 : Int) / 2 % (j : Int)) = (a : Int) ∧ a < j ∧ a = (i2 / 2) % j := ⟨(i2 / 2) % j, by push_cast; rfl, Nat.mod_lt _ hj0, rfl⟩
              by_cases hord : 0 < O ∧ i2 % 2 = 1
              · have d3 : decide (0 < (O : Int)) = true := decide_eq_true (by omega)
                have h2 : ((i2 : Int) % 2 == 1) = true := beq_iff_eq.2 (by omega)
                obtain ⟨o, ho, hoO⟩ : ∃ o : Nat, ((i2 : Int) / 2 % (O : Int)) = (o : Int) ∧ o < O := ⟨(i2 / 2) % O, by push_cast; rfl, Nat.mod_lt _ hord.1⟩
                obtain ⟨ad, cs3, hA3, _, hK3, hcell3⟩ := Kd.C_get (Kd.C_below HR3.out HBX.out) 0 (o : Int) (by omega) (by omega)
                obtain rfl : cs3 = [.int .u8 (order.getD (o : Int).toNat 0)] := hK3
                have hc3o := hcell3 0 _ rfl
                obtain ⟨x, hx⟩ : ∃ x, order.getD (o : Int).toNat 0 = x := ⟨_, rfl⟩
                have hxb : 0 ≤ x ∧ x ≤ 255 := HOB.out x (by rw [← hx, Int.toNat_natCast, List.getD_eq_getElem?_getD, List.getElem?_eq_getElem (by rw [HO.out]; exact hoO)]; exact List.getElem_mem _)
                have e3 : (Kd.int .u8).sz = 1 := rfl
                rw [e3, hx] at hc3o
                simp only [Int.toNat_natCast, Nat.mul_one, Nat.add_zero] at hc3o
                obtain ⟨a1, ha1, haj1⟩ : ∃ a1 : Nat, x % (j : Int) = (a1 : Int) ∧ a1 < j := by
                  have h3 := Int.emod_nonneg x (show (j : Int) ≠ 0 by omega)
                  have h4 := Int.emod_lt_of_pos x (show 0 < (j : Int) by omega)
                  exact ⟨(x % (j : Int)).toNat, by omega, by omega⟩
                have HEV := Aside0.mk (show i2 % 2 = 0 → a1 = (i2 / 2) % j from fun h => by omega)
                have ho0 : (0 : Int) ≤ (o : Int) := by omega
                have ho1 : (o : Int) < (O : Int) := by omega
                subst hA3
                clear hcell3 e3 hx haq
                obtain ⟨a0, rfl⟩ : ∃ a0, a0 = a := ⟨_, rfl⟩
                obtain ⟨a, rfl⟩ : ∃ a, a = a1 := ⟨_, rfl⟩
                obtain ⟨⟨A, m, c⟩, hx⟩ : ∃ x, hs.getD a (none, 0, 0) = x := ⟨_, rfl⟩
                obtain ⟨g10, c10', e10, _⟩ := rowA_form (HI.out.length.trans HIT.out) (by omega) HW.out.it
                injection e10 with e10 _ e11
                subst e10 e11
                obtain ⟨cs, _, hM10, hcell, _⟩ := Kd.R_elem HW.out.it (none, 0, 0) (a : Int) (by omega) (by omega)
                obtain rfl : cs = [.slice (hs.getD (a : Int).toNat (none, 0, 0)).1 (hs.getD (a : Int).toNat (none, 0, 0)).2.1 (hs.getD (a : Int).toNat (none, 0, 0)).2.2] := hM10
                have hc10 := hcell 0 _ rfl
                have e1 : ksl.sz = 1 := rfl
                rw [e1] at hc10
                simp only [Int.toNat_natCast, Nat.mul_one, Nat.add_zero, hx] at hc10
                have HX := Aside0.mk hx
                have ha0 : (0 : Int) ≤ (a : Int) := by omega
                have haj : (a : Int) < (j : Int) := by omega
                clear hcell e1 hx
                go_wp2_with fail
                refine (wi_take_n HIT.out HW.out HP.out HI.out HBX.out (by rw [HFL.out, HM.out]; omega) (by omega) a (by omega) HX.out).mono ?_
                rintro e w5 ⟨Ao, N, co, bb, nx', L', T, rfl, hW5, hT5, hN5, hP5, hle, hlt, hb5⟩
                have HW5 := Aside0.mk hW5
                have HT5 := Aside0.mk hT5
                have HN5 := Aside0.mk hN5
                have HP5 := Aside0.mk hP5
                have HB5 := Aside0.mk hb5
                have HG5 := Aside0.mk (progress HG.out hle hlt HEV.out HP.out.b.n0)
                have hN9 : N ≤ 9223372036854775807 := by
                  have h1 := HT5.out.C.2.1
                  rw [HN5.out] at h1
                  exact h1
                clear hW5 hT5 hN5 hP5 hb5 hle hlt hc10
                go_wp2
                go_loopw [14, 20, 107] (fun v14 v20 v107 wr => ∃ (s : Nat) (u20 : Value), u20 = v20 ∧ v107 = .int .i64 s ∧ s ≤ N ∧ Aside0 (WI wr w.heap.size g mb (j : Int) ww nx' (.slice (some ⟨g10, 0, none⟩) j c10) v14 hs L' (told ++ (T.take s).flatten)) ∧ Aside0 (Told wr w.heap.size (NotOf v14) (.slice Ao N co) T) ∧ Aside0 (Below w.heap.size w wr)) (fun _ _ v107 _ => N - (intOf v107).toNat)
                case atStart => exact ⟨0, _, rfl, rfl, Nat.zero_le _, ⟨by simpa using HW5.out⟩, HT5, HB5⟩
                case round =>
                  obtain ⟨s, u20, rfl, rfl, hs5, HWs, HTs, HBs⟩ := hrel
                  obtain ⟨A14, c14, rfl⟩ := Kd.R_slice HWs.out.tl
                  by_cases hsN : s < N
                  · obtain ⟨go, A1, m1, c1, rfl, hcs, hm1, hmc1, hC1⟩ := HTs.out.at_ HN5.out s hsN
                    have HM1 := Aside0.mk hm1
                    have HC1 := Aside0.mk hC1
                    have hs0i : (0 : Int) ≤ (s : Int) := by omega
                    have hsNi : (s : Int) < (N : Int) := by omega
                    have HLX := Aside0.mk (show ((told ++ (T.take s).flatten).length + m1) * 1 ≤ 140737488355328 from by
                      have h1 := HP5.out.len
                      rw [HFL.out, HM.out] at h1
                      have h2 : (T.take (s + 1)).flatten.length ≤ T.flatten.length := by
                        conv => rhs; rw [← List.take_append_drop (s + 1) T, List.flatten_append, List.length_append]
                        omega
                      rw [flat_snoc T s (by rw [HN5.out]; exact hsN), List.length_append, HM1.out] at h2
                      rw [List.length_append] at h1 ⊢
                      omega)
                    clear hm1 hC1
                    go_wp2_with (at_builtin; go_loud (refine Kd.R_append_rows (Kd.int .u8) (w0 := w) w.heap.size rfl (.tmp 111) (.tmp 112) 22 5 (.int .u8 0) 1 rfl Try.underlying22 info5 rfl (by decide) (by decide) (.slice A14 (told ++ (T.take s).flatten).length c14) (told ++ (T.take s).flatten) (T.getD s []) A1 m1 c1 (fun _ => True) (fun _ => False) rfl rfl HWs.out.tl HC1.out (fun _ _ h => h) (fun _ h => h.elim) (fun _ _ => trivial) HBs.out HBs.out.size HLX.out ?_); intro v7 w7 ho7 hb7 hg7 hat7; have HW7 := Aside0.mk (HWs.out.app hg7 ho7 hat7); have HT7 := Aside0.mk (HTs.out.app HWs.out.tl hg7 hat7); have HB7 := Aside0.mk hb7; clear ho7 hb7 hg7 hat7)
                    go_roundw
                    case rel => exact ⟨s + 1, _, rfl, by go_num, by omega, ⟨by rw [flat_snoc T s (by rw [HN5.out]; exact hsN), ← List.append_assoc]; exact HW7.out⟩, HT7, HB7⟩
                    case measure => simp [intOf]; omega
                  · obtain rfl : s = N := by omega
                    have HWe := Aside0.mk (show WI wr w.heap.size g mb (j : Int) ww nx' (.slice (some ⟨g10, 0, none⟩) j c10) (.slice A14 (told ++ (T.take s).flatten).length c14) hs L' (told ++ T.flatten) from by
                      have h := HWs.out
                      have e : T.take s = T := List.take_of_length_le (by rw [HN5.out]; exact Nat.le_refl _)
                      rw [e] at h ⊢
                      exact h)
                    go_wp2
                    go_roundw
                    case rel => exact ⟨i2 + 1, _, _, _, _, nx', L', told ++ T.flatten, rfl, rfl, rfl, rfl, by go_num, by omega, HWe, HP5, HG5, HBs⟩
                    case measure => simp [intOf]; omega
              · have HEV := Aside0.mk (show i2 % 2 = 0 → a = (i2 / 2) % j from fun _ => haq)
                clear haq
                by_cases hO0 : 0 < O
                · have d3 : decide (0 < (O : Int)) = true := decide_eq_true (by omega)
                  have h2 : ((i2 : Int) % 2 == 1) = false := beq_eq_false_iff_ne.2 (by omega)
                  obtain ⟨⟨A, m, c⟩, hx⟩ : ∃ x, hs.getD a (none, 0, 0) = x := ⟨_, rfl⟩
                  obtain ⟨g10, c10', e10, _⟩ := rowA_form (HI.out.length.trans HIT.out) (by omega) HW.out.it
                  injection e10 with e10 _ e11
                  subst e10 e11
                  obtain ⟨cs, _, hM10, hcell, _⟩ := Kd.R_elem HW.out.it (none, 0, 0) (a : Int) (by omega) (by omega)
                  obtain rfl : cs = [.slice (hs.getD (a : Int).toNat (none, 0, 0)).1 (hs.getD (a : Int).toNat (none, 0, 0)).2.1 (hs.getD (a : Int).toNat (none, 0, 0)).2.2] := hM10
                  have hc10 := hcell 0 _ rfl
                  have e1 : ksl.sz = 1 := rfl
                  rw [e1] at hc10
                  simp only [Int.toNat_natCast, Nat.mul_one, Nat.add_zero, hx] at hc10
                  have HX := Aside0.mk hx
                  have ha0 : (0 : Int) ≤ (a : Int) := by omega
                  have haj : (a : Int) < (j : Int) := by omega
                  clear hcell e1 hx
                  go_wp2_with fail
                  refine (wi_take_n HIT.out HW.out HP.out HI.out HBX.out (by rw [HFL.out, HM.out]; omega) (by omega) a (by omega) HX.out).mono ?_
                  rintro e w5 ⟨Ao, N, co, bb, nx', L', T, rfl, hW5, hT5, hN5, hP5, hle, hlt, hb5⟩
                  have HW5 := Aside0.mk hW5
                  have HT5 := Aside0.mk hT5
                  have HN5 := Aside0.mk hN5
                  have HP5 := Aside0.mk hP5
                  have HB5 := Aside0.mk hb5
                  have HG5 := Aside0.mk (progress HG.out hle hlt HEV.out HP.out.b.n0)
                  have hN9 : N ≤ 9223372036854775807 := by
                    have h1 := HT5.out.C.2.1
                    rw [HN5.out] at h1
                    exact h1
                  clear hW5 hT5 hN5 hP5 hb5 hle hlt hc10
                  go_wp2
                  go_loopw [14, 20, 107] (fun v14 v20 v107 wr => ∃ (s : Nat) (u20 : Value), u20 = v20 ∧ v107 = .int .i64 s ∧ s ≤ N ∧ Aside0 (WI wr w.heap.size g mb (j : Int) ww nx' (.slice (some ⟨g10, 0, none⟩) j c10) v14 hs L' (told ++ (T.take s).flatten)) ∧ Aside0 (Told wr w.heap.size (NotOf v14) (.slice Ao N co) T) ∧ Aside0 (Below w.heap.size w wr)) (fun _ _ v107 _ => N - (intOf v107).toNat)
                  case atStart => exact ⟨0, _, rfl, rfl, Nat.zero_le _, ⟨by simpa using HW5.out⟩, HT5, HB5⟩
                  case round =>
                    obtain ⟨s, u20, rfl, rfl, hs5, HWs, HTs, HBs⟩ := hrel
                    obtain ⟨A14, c14, rfl⟩ := Kd.R_slice HWs.out.tl
                    by_cases hsN : s < N
                    · obtain ⟨go, A1, m1, c1, rfl, hcs, hm1, hmc1, hC1⟩ := HTs.out.at_ HN5.out s hsN
                      have HM1 := Aside0.mk hm1
                      have HC1 := Aside0.mk hC1
                      have hs0i : (0 : Int) ≤ (s : Int) := by omega
                      have hsNi : (s : Int) < (N : Int) := by omega
                      have HLX := Aside0.mk (show ((told ++ (T.take s).flatten).length + m1) * 1 ≤ 140737488355328 from by
                        have h1 := HP5.out.len
                        rw [HFL.out, HM.out] at h1
                        have h2 : (T.take (s + 1)).flatten.length ≤ T.flatten.length := by
                          conv => rhs; rw [← List.take_append_drop (s + 1) T, List.flatten_append, List.length_append]
                          omega
                        rw [flat_snoc T s (by rw [HN5.out]; exact hsN), List.length_append, HM1.out] at h2
                        rw [List.length_append] at h1 ⊢
                        omega)
                      clear hm1 hC1
                      go_wp2_with (at_builtin; go_loud (refine Kd.R_append_rows (Kd.int .u8) (w0 := w) w.heap.size rfl (.tmp 111) (.tmp 112) 22 5 (.int .u8 0) 1 rfl Try.underlying22 info5 rfl (by decide) (by decide) (.slice A14 (told ++ (T.take s).flatten).length c14) (told ++ (T.take s).flatten) (T.getD s []) A1 m1 c1 (fun _ => True) (fun _ => False) rfl rfl HWs.out.tl HC1.out (fun _ _ h => h) (fun _ h => h.elim) (fun _ _ => trivial) HBs.out HBs.out.size HLX.out ?_); intro v7 w7 ho7 hb7 hg7 hat7; have HW7 := Aside0.mk (HWs.out.app hg7 ho7 hat7); have HT7 := Aside0.mk (HTs.out.app HWs.out.tl hg7 hat7); have HB7 := Aside0.mk hb7; clear ho7 hb7 hg7 hat7)
                      go_roundw
                      case rel => exact ⟨s + 1, _, rfl, by go_num, by omega, ⟨by rw [flat_snoc T s (by rw [HN5.out]; exact hsN), ← List.append_assoc]; exact HW7.out⟩, HT7, HB7⟩
                      case measure => simp [intOf]; omega
                    · obtain rfl : s = N := by omega
                      have HWe := Aside0.mk (show WI wr w.heap.size g mb (j : Int) ww nx' (.slice (some ⟨g10, 0, none⟩) j c10) (.slice A14 (told ++ (T.take s).flatten).length c14) hs L' (told ++ T.flatten) from by
                        have h := HWs.out
                        have e : T.take s = T := List.take_of_length_le (by rw [HN5.out]; exact Nat.le_refl _)
                        rw [e] at h ⊢
                        exact h)
                      go_wp2
                      go_roundw
                      case rel => exact ⟨i2 + 1, _, _, _, _, nx', L', told ++ T.flatten, rfl, rfl, rfl, rfl, by go_num, by omega, HWe, HP5, HG5, HBs⟩
                      case measure => simp [intOf]; omega
                · have d3 : decide (0 < (O : Int)) = false := decide_eq_false (by omega)
                  obtain ⟨⟨A, m, c⟩, hx⟩ : ∃ x, hs.getD a (none, 0, 0) = x := ⟨_, rfl⟩
                  obtain ⟨g10, c10', e10, _⟩ := rowA_form (HI.out.length.trans HIT.out) (by omega) HW.out.it
                  injection e10 with e10 _ e11
                  subst e10 e11
                  obtain ⟨cs, _, hM10, hcell, _⟩ := Kd.R_elem HW.out.it (none, 0, 0) (a : Int) (by omega) (by omega)
                  obtain rfl : cs = [.slice (hs.getD (a : Int).toNat (none, 0, 0)).1 (hs.getD (a : Int).toNat (none, 0, 0)).2.1 (hs.getD (a : Int).toNat (none, 0, 0)).2.2] := hM10
                  have hc10 := hcell 0 _ rfl
                  have e1 : ksl.sz = 1 := rfl
                  rw [e1] at hc10
                  simp only [Int.toNat_natCast, Nat.mul_one, Nat.add_zero, hx] at hc10
                  have HX := Aside0.mk hx
                  have ha0 : (0 : Int) ≤ (a : Int) := by omega
                  have haj : (a : Int) < (j : Int) := by omega
                  clear hcell e1 hx
                  go_wp2_with fail
                  refine (wi_take_n HIT.out HW.out HP.out HI.out HBX.out (by rw [HFL.out, HM.out]; omega) (by omega) a (by omega) HX.out).mono ?_
                  rintro e w5 ⟨Ao, N, co, bb, nx', L', T, rfl, hW5, hT5, hN5, hP5, hle, hlt, hb5⟩
                  have HW5 := Aside0.mk hW5
                  have HT5 := Aside0.mk hT5
                  have HN5 := Aside0.mk hN5
                  have HP5 := Aside0.mk hP5
                  have HB5 := Aside0.mk hb5
                  have HG5 := Aside0.mk (progress HG.out hle hlt HEV.out HP.out.b.n0)
                  have hN9 : N ≤ 9223372036854775807 := by
                    have h1 := HT5.out.C.2.1
                    rw [HN5.out] at h1
                    exact h1
                  clear hW5 hT5 hN5 hP5 hb5 hle hlt hc10
                  go_wp2
                  go_loopw [14, 20, 107] (fun v14 v20 v107 wr => ∃ (s : Nat) (u20 : Value), u20 = v20 ∧ v107 = .int .i64 s ∧ s ≤ N ∧ Aside0 (WI wr w.heap.size g mb (j : Int) ww nx' (.slice (some ⟨g10, 0, none⟩) j c10) v14 hs L' (told ++ (T.take s).flatten)) ∧ Aside0 (Told wr w.heap.size (NotOf v14) (.slice Ao N co) T) ∧ Aside0 (Below w.heap.size w wr)) (fun _ _ v107 _ => N - (intOf v107).toNat)
                  case atStart => exact ⟨0, _, rfl, rfl, Nat.zero_le _, ⟨by simpa using HW5.out⟩, HT5, HB5⟩
                  case round =>
                    obtain ⟨s, u20, rfl, rfl, hs5, HWs, HTs, HBs⟩ := hrel
                    obtain ⟨A14, c14, rfl⟩ := Kd.R_slice HWs.out.tl
                    by_cases hsN : s < N
                    · obtain ⟨go, A1, m1, c1, rfl, hcs, hm1, hmc1, hC1⟩ := HTs.out.at_ HN5.out s hsN
                      have HM1 := Aside0.mk hm1
                      have HC1 := Aside0.mk hC1
                      have hs0i : (0 : Int) ≤ (s : Int) := by omega
                      have hsNi : (s : Int) < (N : Int) := by omega
                      have HLX := Aside0.mk (show ((told ++ (T.take s).flatten).length + m1) * 1 ≤ 140737488355328 from by
                        have h1 := HP5.out.len
                        rw [HFL.out, HM.out] at h1
                        have h2 : (T.take (s + 1)).flatten.length ≤ T.flatten.length := by
                          conv => rhs; rw [← List.take_append_drop (s + 1) T, List.flatten_append, List.length_append]
                          omega
                        rw [flat_snoc T s (by rw [HN5.out]; exact hsN), List.length_append, HM1.out] at h2
                        rw [List.length_append] at h1 ⊢
                        omega)
                      clear hm1 hC1
                      go_wp2_with (at_builtin; go_loud (refine Kd.R_append_rows (Kd.int .u8) (w0 := w) w.heap.size rfl (.tmp 111) (.tmp 112) 22 5 (.int .u8 0) 1 rfl Try.underlying22 info5 rfl (by decide) (by decide) (.slice A14 (told ++ (T.take s).flatten).length c14) (told ++ (T.take s).flatten) (T.getD s []) A1 m1 c1 (fun _ => True) (fun _ => False) rfl rfl HWs.out.tl HC1.out (fun _ _ h => h) (fun _ h => h.elim) (fun _ _ => trivial) HBs.out HBs.out.size HLX.out ?_); intro v7 w7 ho7 hb7 hg7 hat7; have HW7 := Aside0.mk (HWs.out.app hg7 ho7 hat7); have HT7 := Aside0.mk (HTs.out.app HWs.out.tl hg7 hat7); have HB7 := Aside0.mk hb7; clear ho7 hb7 hg7 hat7)
                      go_roundw
                      case rel => exact ⟨s + 1, _, rfl, by go_num, by omega, ⟨by rw [flat_snoc T s (by rw [HN5.out]; exact hsN), ← List.append_assoc]; exact HW7.out⟩, HT7, HB7⟩
                      case measure => simp [intOf]; omega
                    · obtain rfl : s = N := by omega
                      have HWe := Aside0.mk (show WI wr w.heap.size g mb (j : Int) ww nx' (.slice (some ⟨g10, 0, none⟩) j c10) (.slice A14 (told ++ (T.take s).flatten).length c14) hs L' (told ++ T.flatten) from by
                        have h := HWs.out
                        have e : T.take s = T := List.take_of_length_le (by rw [HN5.out]; exact Nat.le_refl _)
                        rw [e] at h ⊢
                        exact h)
                      go_wp2
                      go_roundw
                      case rel => exact ⟨i2 + 1, _, _, _, _, nx', L', told ++ T.flatten, rfl, rfl, rfl, rfl, by go_num, by omega, HWe, HP5, HG5, HBs⟩
                      case measure => simp [intOf]; omega
          · have d2 : decide ((i2 : Int) < 20000) = false := decide_eq_false (by omega)
            have hdone : nx = (j : Int) := by
              have h1 := HP.out.b.n1
              rw [HIT.out] at h1
              by_cases hz : j = 0
              · have := HP.out.b.n0
                omega
              · have := HG.out (j - 1) (by omega) (by omega)
                omega
            have HTX := Aside0.mk (show told = text from by rw [HP.out.done (by rw [HIT.out]; exact hdone), HFL.out])
            obtain ⟨A14, c14, rfl⟩ := Kd.R_slice HW.out.tl
            have htl : told.length = M := by rw [HTX.out]; exact HM.out
            rw [htl] at HW ⊢
            by_cases hjz : j = 0
            · have hbz : ((j : Int) == 0) = true := beq_iff_eq.2 (by omega)
              go_wp2
              go_ret
              exact ⟨rfl, HBX.out⟩
            · have hbz : ((j : Int) == 0) = false := beq_eq_false_iff_ne.2 (by omega)
              go_wp2_with fail
              refine (rv_done HW.out.rv).mono ?_
              rintro e w8 ⟨rfl, q8, rfl⟩
              rw [show (nx == (j : Int)) = true from beq_iff_eq.2 hdone]
              have hct : Kd.C (Kd.int .u8) (wr.drewN q8) A14 M text := by
                have h1 := (Kd.R_reads' (Kd.R_drewN HW.out.tl q8)).2.2
                rw [htl, HTX.out] at h1
                exact h1
              have hca := Kd.C_string (P := Try.prog) (A := A14) (c := c14) Try.underlying22 Try.underlying5 Try.underlying9 hct
              have hcb := Kd.C_string (P := Try.prog) (A := A0) (c := c0) Try.underlying22 Try.underlying5 Try.underlying9 (Kd.C_below HR0.out (pw_below_drewN HBX.out q8))
              obtain ⟨ss, hss⟩ : ∃ ss, strOfNums text = ss := ⟨_, rfl⟩
              rw [hss] at hca hcb
              clear hct hss htl
              go_wp2
              go_ret
              exact ⟨by first | rfl | simp, pw_below_drewN HBX.out q8⟩
end Go.Proofs.Ythkiedkifhloeaa.Lib
