/- the reference's One: walked by hand; chunk.Pack in the print's form. -/
import Derived.Test.YtapaodagnpaekaaF1
namespace Go.Proofs.Ytapaodagnpaekaa.Lib
open Go.RowKit Go.Proofs.YtapaodagnpaekaaW.PrintWords Go.Proofs.YtapaodagnpaekaaW.PrintLast Go.Proofs.YtapaodagnpaekaaW.PrintMore
attribute [local go_sem] max2_mx min2_mn max_two min_two
set_option linter.unusedVariables false
set_option linter.unusedSimpArgs false
def halftoneref11_One.f (k : Nat) (a0 : ByteArray) (l : List Int) : Option (List Int) :=
  if a0.size ≤ 1048576 ∧ l.length ≤ 1048576 then
    (halftoneref02_PutBig.f k 4 (l.length : Int)).bind fun p => (halftoneref03_Of.f k (bytesOf a0 ++ l)).bind fun s => (halftoneref02_PutBig.f k 4 s).bind fun q =>
      if p.length ≤ 100 ∧ q.length ≤ 100 ∧ 0 ≤ s ∧ s < 4294967296 then some (p ++ (bytesOf a0 ++ l) ++ q) else none
  else none
theorem halftoneref11_One.mono : ∀ a0 a1 k, LeO (halftoneref11_One.f k a0 a1) (halftoneref11_One.f (k + 1) a0 a1) := by
  intro a0 a1 k
  unfold halftoneref11_One.f
  repeat' first
  | (with_reducible exact halftoneref02_PutBig.mono _ _ _)
  | (with_reducible exact halftoneref03_Of.mono _ _)
  | (with_reducible exact LeO.refl _)
  | (with_reducible exact LeO.none _)
  | (with_reducible refine LeO.ite ?_ ?_)
  | (with_reducible refine LeO.bind ?_ (fun _ => ?_))
theorem of28 {k N : Nat} {A : Option Addr} {c : Nat} {xs : List Int} {s : Int} (hl : xs.length = N) (h : halftoneref03_Of.f k xs = some s) (W : World) (hC : Kd.C (Kd.int .u8) W A N xs) (hc : N ≤ c) : Calls Try.prog 28 #[.slice A N c] W fun e w' => e = .returned (.int .u32 s) ∧ Drawn0 W w' := by
  subst hl
  exact halftoneref03_Of.calls k A c xs s W hC hc h
set_option maxHeartbeats 2000000 in
set_option maxRecDepth 100000 in
theorem halftoneref11_One.calls (k : Nat) (a0 : ByteArray) (A1 : Option Addr) (c1 : Nat) (l1 : List Int) (r : List Int) (w : World) (hr1 : Kd.C (Kd.int .u8) w A1 l1.length l1) (hc1 : l1.length ≤ c1) (h : halftoneref11_One.f k a0 l1 = some r) :
    Calls Try.prog 30 #[.agg #[.string a0, .slice A1 l1.length c1]] w fun e w' => ∃ v0_ : Value, e = .returned (v0_) ∧ Kd.R (Kd.int .u8) 5 w' w.heap.size (fun _ => True) v0_ r ∧ Below w.heap.size w w' := by
  unfold halftoneref11_One.f at h
  by_cases hsz : a0.size ≤ 1048576 ∧ l1.length ≤ 1048576
  case neg => rw [if_neg hsz] at h; cases h
  rw [if_pos hsz] at h
  replace h := Option.bind_eq_some_iff.mp h
  obtain ⟨p, hp, h⟩ := h
  replace h := Option.bind_eq_some_iff.mp h
  obtain ⟨s, hs, h⟩ := h
  replace h := Option.bind_eq_some_iff.mp h
  obtain ⟨q, hq, h⟩ := h
  by_cases hg : p.length ≤ 100 ∧ q.length ≤ 100 ∧ 0 ≤ s ∧ s < 4294967296
  case neg => rw [if_neg hg] at h; cases h
  rw [if_pos hg] at h
  obtain rfl := Option.some.inj h
  clear h
  obtain ⟨hs1, hs2⟩ := hsz
  obtain ⟨hp1, hq1, hv0, hv1⟩ := hg
  obtain ⟨n, hn⟩ : ∃ n, l1.length = n := ⟨_, rfl⟩
  rw [hn] at hr1 hc1 hp hs2 ⊢
  have hkn : a0.size = a0.size := rfl
  obtain ⟨pl, hpl⟩ : ∃ pl, p.length = pl := ⟨_, rfl⟩
  obtain ⟨ql, hql⟩ : ∃ ql, q.length = ql := ⟨_, rfl⟩
  have HN := Aside0.mk hn
  have HC := Aside0.mk hr1
  have HP := Aside0.mk hp
  have HS := Aside0.mk hs
  have HQ := Aside0.mk hq
  have HPL := Aside0.mk hpl
  have HQL := Aside0.mk hql
  have HBL := Aside0.mk (show (bytesOf a0 ++ l1).length = a0.size + n from by rw [List.length_append, bytesOf_length, hn])
  rw [hpl] at hp1
  rw [hql] at hq1
  have kb := fun (w : World) (s : ByteArray) => print_bytes (P := Try.prog) 9 26 5 Try.underlying9 Try.underlying26 Try.underlying5 s w
  have hbx := heap_alloc_new w (.cells #[.string a0, .slice A1 n c1] 40)
  have HBX := Aside0.mk hbx
  have hb1 : (Lib.bytesWorld (w.alloc (.cells #[.string a0, .slice A1 n c1] 40)) 5 a0).cell? ⟨w.heap.size, 1, none⟩ = some (.slice A1 n c1) := by
    rw [Lib.bytesWorld_old _ _ _ _ (show w.heap.size < _ by simp)]
    exact blk_cell hbx 1
  have HB1 := Aside0.mk (show Below w.heap.size w (Lib.bytesWorld (w.alloc (.cells #[.string a0, .slice A1 n c1] 40)) 5 a0) from bytes_below (below_alloc (Below.refl _ _) _) (by simp) 5 a0)
  have HX1 := Aside0.mk (show (Lib.bytesWorld (w.alloc (.cells #[.string a0, .slice A1 n c1] 40)) 5 a0).heap[w.heap.size]? = some (.cells #[.string a0, .slice A1 n c1] 40 (0, 0)) from (Lib.bytesWorld_at_old _ _ _ _ (by simp)).trans hbx)
  have hg1 := Lib.bytesWorld_at_new (w.alloc (.cells #[.string a0, .slice A1 n c1] 40)) 5 a0
  rw [World.size_alloc] at hg1
  have HG1 := Aside0.mk hg1
  clear hg1
  have hbs1 := Lib.bytesWorld_size (w.alloc (.cells #[.string a0, .slice A1 n c1] 40)) 5 a0
  rw [World.size_alloc] at hbs1
  have HS1 := Aside0.mk hbs1
  clear hbs1
  have HCP := Aside0.mk (show grownCap (w.alloc (.cells #[.string a0, .slice A1 n c1] 40)) a0.size 0 5 = (Lib.bytesCells (w.alloc (.cells #[.string a0, .slice A1 n c1] 40)) 5 a0).size from by
    have h1 := grownCap_ge (w.alloc (.cells #[.string a0, .slice A1 n c1] 40)) a0.size 0 5
    have h2 : a0.data.size = a0.size := rfl
    simp only [Lib.bytesCells, Array.size_append, Array.size_map, Array.size_replicate, h2]
    omega)
  have HTK := Aside0.mk (show (Lib.bytesCells (w.alloc (.cells #[.string a0, .slice A1 n c1] 40)) 5 a0).toList.take a0.size = nums .u8 (bytesOf a0) from by
    have h2 : a0.data.size = a0.size := rfl
    simp only [Lib.bytesCells, Array.toList_append, Array.toList_map]
    rw [List.take_left' (by rw [List.length_map, Array.length_toList, h2])]
    simp [nums, bytesOf])
  clear hr1 hn hkn hp hs hq hpl hql hbx
  go_enter Try.func30, Try.ntmps30
  obtain ⟨N, hN⟩ : ∃ N, a0.size + n = N := ⟨_, rfl⟩
  have hNs : N ≤ 2097152 := by omega
  rw [hN] at HBL
  have HNN := Aside0.mk hN
  clear hN
  have HZ2 := Aside0.mk (show (p.length + N) * 1 ≤ 140737488355328 from by have := HPL.out; omega)
  have HL2 := Aside0.mk (show (p ++ (bytesOf a0 ++ l1)).length = pl + N from by rw [List.length_append, HPL.out, HBL.out])
  have HZ3 := Aside0.mk (show ((p ++ (bytesOf a0 ++ l1)).length + ql) * 1 ≤ 140737488355328 from by rw [HL2.out]; omega)
  go_wp2_with (first
    | (at_builtin; refine wpList_app_mark (P := Try.prog) rfl (.tmp 7) (.tmp 9) 26 rfl (w.heap.size + 1) Try.underlying26 info5 (xs := bytesOf a0) (ys := l1) (A := A1) (m := n) (c := c1) rfl rfl HG1.out (Nat.le_refl _) HCP.out (bytesOf_length a0) HTK.out (grownCap_ge _ _ _ _) (Kd.C_below HC.out HB1.out) (by omega) (by simp) (by rw [HS1.out]; omega) ?_; rw [HNN.out]; intro A2 c2 w2 hc2 hC2 hb2; have HX2 := Aside0.mk ((hb2.block w.heap.size (Nat.lt_succ_self _)).trans HX1.out); have hx2 := blk_cell HX2.out 1; have HC2 := Aside0.mk hC2; have HCC2 := Aside0.mk hc2; have HB2 := Aside0.mk (HB1.out.trans (hb2.mono (Nat.le_succ _))); clear hC2 hc2 hb2)
    | (go_at_call 35; refine (halftoneref02_PutBig.calls k 4 (n : Int) p _ HP.out).mono ?_; rintro e w3 ⟨v3, rfl, hR3, hb3⟩; have HR3 := Aside0.mk hR3; have HC3 := Aside0.mk (Kd.C_below HC2.out hb3); have HB3 := Aside0.mk hb3; clear hR3 hb3)
    | (at_builtin; refine Kd.R_append_rows (Kd.int .u8) (w0 := w2) w2.heap.size rfl (.tmp 14) (.tmp 15) 26 5 (.int .u8 0) 1 rfl Try.underlying26 info5 rfl (by decide) (by decide) v3 p (bytesOf a0 ++ l1) A2 N c2 (fun _ => True) (fun _ => False) rfl rfl HR3.out HC3.out (fun _ _ h => h) (fun _ h => h.elim) (fun _ _ => trivial) HB3.out HB3.out.size HZ2.out ?_; intro v4 w4 hR4 hb4 hg4 hat4; have HR4 := Aside0.mk hR4; have HB4 := Aside0.mk hb4; have HC4 := Aside0.mk (Kd.C_below HC2.out hb4); clear hR4 hb4 hg4 hat4)
    | (go_at_call 28; refine (of28 HBL.out HS.out _ HC4.out HCC2.out).mono ?_; rintro e w5 ⟨rfl, q5, rfl⟩)
    | (go_at_call 35; refine (halftoneref02_PutBig.calls k 4 s q _ HQ.out).mono ?_; rintro e w6 ⟨v6, rfl, hR6, hb6⟩; obtain ⟨A6, c6, rfl, hR6⟩ := row_form HQL.out hR6; have HR6 := Aside0.mk (HQL.out ▸ (Kd.R_reads' hR6).2.2); have HR5 := Aside0.mk (Kd.R_below (Kd.R_drewN HR4.out q5) hb6); have HB6 := Aside0.mk (below_then (pw_below_drewN HB4.out q5) (by simpa using HB4.out.size) hb6); clear hR6 hb6)
    | (at_builtin; refine Kd.R_append_rows (Kd.int .u8) (w0 := w2) w2.heap.size rfl (.tmp 17) (.tmp 21) 26 5 (.int .u8 0) 1 rfl Try.underlying26 info5 rfl (by decide) (by decide) v4 (p ++ (bytesOf a0 ++ l1)) q A6 ql c6 (fun _ => True) (fun _ => False) rfl rfl HR5.out HR6.out (fun _ _ h => h) (fun _ h => h.elim) (fun _ _ => trivial) HB6.out HB6.out.size HZ3.out ?_; intro v7 w7 hR7 hb7 hg7 hat7; have HR7 := Aside0.mk hR7; have HB7 := Aside0.mk hb7; clear hR7 hb7 hg7 hat7)
    | fail)
  go_ret
  refine ⟨v7, rfl, ?_, below_then HB2.out HB2.out.size HB7.out⟩
  exact Kd.R_lower HR7.out HB2.out.size
def fewB (cs : List S40) : Bool := decide (cs.length ≤ 101) && decide ((cs.map fun c => c.f1.length).sum ≤ 5000) && cs.all (fun c => c.f1.all fun x => decide (0 ≤ x ∧ x ≤ 255))
theorem fewB_iff {cs : List S40} : fewB cs = true ↔ Few cs := by
  unfold fewB
  simp only [Bool.and_eq_true, decide_eq_true_iff, List.all_eq_true]
  exact ⟨fun h => ⟨h.1.1, h.1.2, fun c hc x hx => h.2 c hc x hx⟩, fun h => ⟨⟨h.n, h.s⟩, fun c hc x hx => h.b c hc x hx⟩⟩
/-- chunk.Pack, of some chunks, not too many. -/
def chunk_Pack.f (k : Nat) (cs : List S40) : Option (List Int × Int) := if 0 < cs.length ∧ fewB cs = true then some (if cs.all (fun c => kindB c.f0) = true then (packL cs, 0) else ([], 1)) else none
theorem chunk_Pack.mono : ∀ a0 k, LeO (chunk_Pack.f k a0) (chunk_Pack.f (k + 1) a0) := fun _ _ => LeO.refl _
theorem chunk_Pack.calls (k : Nat) (A0 : Option Addr) (c0 : Nat) (l0 : List S40) (r1 : List Int) (r2 : Int) (w : World) (hr0 : Kd.C k40 w A0 l0.length l0) (hc0 : l0.length ≤ c0) (h : chunk_Pack.f k l0 = some (r1, r2)) :
    Calls Try.prog 15 #[.slice A0 l0.length c0] w fun e w' => ∃ v0_ : Value, e = .returned (.tuple #[v0_, .int .i64 r2]) ∧ Kd.R (Kd.int .u8) 5 w' w.heap.size (fun _ => True) v0_ r1 ∧ Below w.heap.size w w' := by
  unfold chunk_Pack.f at h
  by_cases hg : 0 < l0.length ∧ fewB l0 = true
  case neg => rw [if_neg hg] at h; cases h
  rw [if_pos hg] at h
  replace h := Option.some.inj h
  refine (pack_walk A0 l0.length c0 l0 w rfl hr0 (fewB_iff.1 hg.2)).mono ?_
  rintro e w' ⟨hb, ⟨h1, rfl⟩ | ⟨h1, A, c, rfl, _, hR⟩⟩
  · rw [if_neg (by rw [h1]; decide)] at h
    injection h with e1 e2
    subst e1 e2
    exact ⟨_, rfl, Kd.R_nil _ _ _ _ _, hb⟩
  · rw [if_pos h1] at h
    injection h with e1 e2
    subst e1 e2
    exact ⟨_, rfl, hR hg.1, hb⟩
theorem info40 : (Try.prog.info? 40).map (fun i => (i.zero, i.size, i.bytes)) = some (some (.agg #[(.string ⟨#[]⟩), (.slice none 0 0)]), 2, 40) := by kernel_rfl
end Go.Proofs.Ytapaodagnpaekaa.Lib
