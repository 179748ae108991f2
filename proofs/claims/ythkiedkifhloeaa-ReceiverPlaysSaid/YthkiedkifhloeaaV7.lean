/- receiver: halftonelaw24.fixed: walked by hand: it answers true. -/
import Derived.Test.YthkiedkifhloeaaV6
import Derived.Lib.SlBytesConst
namespace Go.Proofs.Ythkiedkifhloeaa.Lib
open Go.RowKit Go.Proofs.YthkiedkifhloeaaW.PrintWords Go.Proofs.YthkiedkifhloeaaW.PrintLast Go.Proofs.YthkiedkifhloeaaW.PrintMore
set_option linter.unusedVariables false
set_option linter.unusedSimpArgs false
def tru (_ : Nat) : Prop := True
theorem conv_any (w : World) (b : Nat) (hb : w.heap.size = b) (C : Array Value) (n c : Nat) : (convert 22 22 (.slice (some ⟨b, 0, none⟩) n c)).run Try.prog (w.alloc (.cells C 5)) = .ok (.slice (some ⟨b, 0, none⟩) n c) (w.alloc (.cells C 5 (C.size, C.size + 1))) := by
  subst hb
  exact Lib.run_convert_bytes_const (P := Try.prog) w 22 5 C n c Try.underlying22 Try.underlying5
theorem C_one (W : World) (x : Int) {b : Nat} (m : Nat × Nat) (hb : W.heap.size = b) : Kd.C (Kd.int .u8) (W.alloc (.cells #[.int .u8 x] 5 m)) (some ⟨b, 0, none⟩) 1 [x] := by
  subst hb
  refine ⟨rfl, by simp, fun _ => ⟨_, rfl, fun j p hj => ⟨[.int .u8 p], rfl, rfl, fun i u hi => ?_⟩⟩⟩
  cases j with
  | zero =>
    obtain rfl := Option.some.inj (show some x = some p from hj)
    cases i with
    | zero =>
      obtain rfl := Option.some.inj (show some (Value.int .u8 x) = some u from hi)
      rw [add_plain]
      exact cell_of_row _ _ 0 _ 5 m (heap_alloc_new W (.cells #[.int .u8 x] 5 m))
    | succ i => simp at hi
  | succ j => simp at hj
theorem Told.C {W : World} {B : Nat} {ok : Nat → Prop} {A : Option Addr} {N c : Nat} {T : List (List Int)} (h : Told W B ok (.slice A N c) T) : Kd.C (Kd.slice 5 (Kd.int .u8)) W A T.length T := by
  obtain ⟨A2, c2, e, _, hC⟩ := h.reads
  injection e with e _ _
  rw [e]
  exact hC
theorem bs1 : ∀ l ∈ [[(121 : Int)]], Bytes l := fun l hl x hx => by
  rw [List.mem_singleton] at hl
  subst hl
  rw [List.mem_singleton] at hx
  omega
theorem bs2 : ∀ l ∈ [[(122 : Int)], [120]], Bytes l := fun l hl x hx => by
  rcases List.mem_cons.1 hl with rfl | hl
  · rw [List.mem_singleton] at hx
    omega
  · rw [List.mem_singleton] at hl
    subst hl
    rw [List.mem_singleton] at hx
    omega
theorem C_kr1 {W : World} {b : Nat} {x y : Int} (h : W.heap[b]? = some (.cells #[.int .i64 x, .int .i64 y] 48 (0, 0))) : Kd.C kr W (some ⟨b, 0, none⟩) 1 [(x, y)] := by
  refine ⟨rfl, by simp, fun _ => ⟨_, rfl, fun j p hj => ⟨[.int .i64 p.1, .int .i64 p.2], rfl, ⟨[_], [_], rfl, rfl, rfl⟩, fun i u hi => ?_⟩⟩⟩
  cases j with
  | zero =>
    obtain rfl := Option.some.inj (show some (x, y) = some p from hj)
    have h1 := blk_cell h i
    rw [add_plain]
    show World.cell? _ ⟨b, 0 * 2 + i, none⟩ = _
    rw [Nat.zero_mul, Nat.zero_add]
    exact h1.trans (by simpa using hi)
  | succ j => simp at hj
theorem C_lit {W : World} {b : Nat} (vs : List Hd) (T : List (List Int)) (hl : vs.length = T.length) (h : W.heap[b]? = some (.cells (vs.map hv).toArray 22 (0, 0))) (hr : ∀ (j : Nat) (x : Hd) (l : List Int), vs[j]? = some x → T[j]? = some l → x.2.1 = l.length ∧ l.length ≤ x.2.2 ∧ Kd.C (Kd.int .u8) W x.1 l.length l) (hn : T.length ≤ 1000) : Kd.C (Kd.slice 5 (Kd.int .u8)) W (some ⟨b, 0, none⟩) T.length T := by
  refine ⟨rfl, by omega, fun _ => ⟨_, rfl, fun j p hj => ?_⟩⟩
  have hjl := (List.getElem?_eq_some_iff.1 hj).1
  have hjv : j < vs.length := by omega
  obtain ⟨h1, h2, h3⟩ := hr j vs[j] p (List.getElem?_eq_getElem hjv) hj
  refine ⟨[hv vs[j]], rfl, ⟨vs[j].1, vs[j].2.2, by unfold hv; rw [h1], h2, h3⟩, fun i u hi => ?_⟩
  cases i with
  | zero =>
    obtain rfl := Option.some.inj (show some (hv vs[j]) = some u from hi)
    have h4 := blk_cell h j
    rw [add_plain]
    show World.cell? _ ⟨b, j * 1 + 0, none⟩ = _
    rw [Nat.mul_one, Nat.add_zero, h4]
    simp [List.getElem?_eq_getElem hjv]
  | succ i => simp at hi
/-- what lies apart from the receiver stays -/
theorem kept_ty {W W1 : World} {g mb : Nat} {n w nx : Int} {F : List (Int × Hd)} (h : IsRv W g mb n w nx F) (hk : Kept W W1 (fun k => k = g ∨ k = mb)) {k t : Nat} (ht : 51 ≠ t) (hc : ∃ cells, W.heap[k]? = some (.cells cells t (0, 0))) : W1.heap[k]? = W.heap[k]? := by
  obtain ⟨cells, hc⟩ := hc
  refine hk.2 k (blk_lt hc) ?_
  rintro (rfl | rfl)
  · rw [h.blk] at hc
    injection hc with hc
    injection hc with _ hc
    exact ht hc
  · obtain ⟨es, clock, hm, _⟩ := h.mp
    rw [hm] at hc
    cases hc
theorem fx_yes {w W : World} {g mb : Nat} {nx nx' : Int} {L L' : List (Int × List Int)} {T : List (List Int)} (h : Rv W w.heap.size tru g mb 4 3 nx L) (hb : Below w.heap.size w W) (x i : Int) (hi : nx ≤ i ∧ i < 4 ∧ i < nx + 3) (hn : atF L i = none) (hp : popL nx (insF i [x] L) = (nx', L', T)) :
    Calls Try.prog 10 #[.pointer (some ⟨g, 0, none⟩), .int .i64 i, .slice (some ⟨W.heap.size, 0, none⟩) 1 1] (W.alloc (.cells #[.int .u8 x] 5 (1, 2))) fun e W' => ∃ Ao co, e = .returned (.tuple #[.slice Ao T.length co, .bool true]) ∧ Rv W' w.heap.size tru g mb 4 3 nx' L' ∧ Told W' w.heap.size tru (.slice Ao T.length co) T ∧ Below w.heap.size w W' ∧
      (∀ v T, Told W w.heap.size tru v T → Told W' w.heap.size tru v T) ∧ (∀ v xs, Kd.R kr 48 W w.heap.size (fun _ => True) v xs → Kd.R kr 48 W' w.heap.size (fun _ => True) v xs) := by
  have h1 := h.below (below_alloc (Below.refl _ _) (.cells #[.int .u8 x] 5 (1, 2)))
  refine (rv_yes h1 i hi hn (some ⟨W.heap.size, 0, none⟩) 1 1 [x] rfl (C_one W x _ rfl) (by decide)).mono ?_
  rintro e W' ⟨Ao, No, co, rfl, hV, hT, rfl, hK, hb2⟩
  rw [hp] at hV hT ⊢
  obtain ⟨F, hF, _, _⟩ := h1.rv
  have hty : ∀ (k t : Nat), 51 ≠ t → (∃ cells, W.heap[k]? = some (.cells cells t (0, 0))) → W'.heap[k]? = W.heap[k]? := fun k t ht hc => by
    obtain ⟨cells, hc⟩ := hc
    exact (kept_ty hF hK ht ⟨cells, blk_alloc hc _⟩).trans ((blk_alloc hc _).trans hc.symm)
  refine ⟨Ao, co, rfl, hV.mono (fun _ _ _ _ => trivial), hT.st (fun _ _ _ _ => rfl) (fun _ _ _ _ _ => ⟨rfl, trivial⟩), hb.trans ((below_alloc (Below.refl _ _) _ |>.mono hb.size).trans hb2), fun v T hv => ?_, fun v xs hv => ?_⟩
  · exact hv.st (fun k _ _ hc => hty k 22 (by decide) hc) (fun k _ _ _ hc => ⟨hty k 5 (by decide) hc, trivial⟩)
  · exact Kd.R_mono (Kd.R_step (Kd.R_bound (Kd.R_tight rfl hv)) (fun k hk _ => hty k 48 (by decide) (Kd.R_typed hv k hk.1.symm))) (fun _ _ => trivial)
set_option maxRecDepth 100000 in
set_option maxHeartbeats 4000000 in
theorem fixed_walk (w : World) : Calls Try.prog 7 #[] w fun e w' => e = .returned (.bool true) ∧ Below w.heap.size w w' := by
  have hcv : ∀ (w : World) (b : Nat) (_ : w.heap.size = b) (x : Int), (convert 22 22 (.slice (some ⟨b, 0, none⟩) 1 1)).run Try.prog (w.alloc (.cells #[.int .u8 x] 5)) = .ok (.slice (some ⟨b, 0, none⟩) 1 1) (w.alloc (.cells #[.int .u8 x] 5 (1, 2))) := fun w b hb x => conv_any w b hb #[.int .u8 x] 1 1
  have HCV := Aside0.mk hcv
  clear hcv
  go_enter Try.func7, Try.ntmps7
  go_wp2_with fail
  refine (rv_new 4 3 w tru (by decide) (by decide)).mono ?_
  rintro e w1 ⟨g, mb, rfl, h1, hb1⟩
  have H1 := Aside0.mk h1
  have HB1 := Aside0.mk hb1
  clear h1 hb1
  have hc1 := HCV.out w1 w1.heap.size rfl 120
  go_wp2_with fail
  refine (fx_yes H1.out HB1.out 120 2 (by decide) rfl (nx' := 0) (L' := [(2, [120])]) (T := []) rfl).mono ?_
  rintro e w2 ⟨A2, c2, rfl, h2, _, hb2, _, _⟩
  have H2 := Aside0.mk h2
  have HB2 := Aside0.mk hb2
  clear h2 hb2 hc1 H1 HB1
  go_wp2_with fail
  refine (rv_ranges H2.out).mono ?_
  rintro e w3 ⟨A3, N3, c3, rfl, hN3, hR3, hb3⟩
  obtain rfl : 1 = N3 := hN3
  have H3 := Aside0.mk (H2.out.below hb3)
  have HR3 := Aside0.mk (show Kd.R kr 48 w3 w.heap.size (fun _ => True) (.slice A3 1 c3) [(2, 3)] from Kd.R_lower hR3 HB2.out.size)
  have HB3 := Aside0.mk (below_then HB2.out HB2.out.size hb3)
  clear hR3 hb3 H2 HB2
  have hc3 := HCV.out w3 w3.heap.size rfl 121
  go_wp2_with fail
  refine (fx_yes H3.out HB3.out 121 0 (by decide) rfl (nx' := 1) (L' := [(2, [120])]) (T := [[121]]) rfl).mono ?_
  rintro e w4 ⟨A4, c4, rfl, h4, hT4, hb4, _, hr4⟩
  have H4 := Aside0.mk h4
  have HT4 := Aside0.mk hT4
  have HB4 := Aside0.mk hb4
  have HR4 := Aside0.mk (hr4 _ _ HR3.out)
  clear h4 hT4 hb4 hr4 hc3 H3 HR3 HB3
  have hc4 := HCV.out w4 w4.heap.size rfl 122
  go_wp2_with fail
  refine (fx_yes H4.out HB4.out 122 1 (by decide) rfl (nx' := 3) (L' := []) (T := [[122], [120]]) rfl).mono ?_
  rintro e w5 ⟨A5, c5, rfl, h5, hT5, hb5, ht5, hr5⟩
  have H5 := Aside0.mk h5
  have HT5 := Aside0.mk hT5
  have HU5 := Aside0.mk (ht5 _ _ HT4.out)
  have HB5 := Aside0.mk hb5
  have HR5 := Aside0.mk (hr5 _ _ HR4.out)
  clear h5 hT5 hb5 ht5 hr5 hc4 H4 HT4 HB4 HR4
  have hc5 := HCV.out w5 w5.heap.size rfl 122
  go_wp2_with fail
  refine (rv_no (H5.out.below (below_alloc (Below.refl _ _) _)) 1 (by decide) _ (.inl (by decide))).mono ?_
  rintro e w6 ⟨rfl, q6, rfl⟩
  obtain ⟨w6, hw6⟩ : ∃ w6, (w5.alloc (.cells #[.int .u8 122] 5 (1, 2))).drewN q6 = w6 := ⟨_, rfl⟩
  have hb6 : Below w5.heap.size w5 w6 := by rw [← hw6]; exact pw_below_drewN (below_alloc (Below.refl _ _) _) q6
  rw [hw6]
  have H6 := Aside0.mk (H5.out.below hb6)
  have HT6 := Aside0.mk (HT5.out.below hb6)
  have HU6 := Aside0.mk (HU5.out.below hb6)
  have HR6 := Aside0.mk (Kd.R_below HR5.out hb6)
  have HB6 := Aside0.mk (below_then HB5.out HB5.out.size hb6)
  clear hw6 hb6 hc5 H5 HT5 HU5 HR5 HB5
  have HL6 := Aside0.mk (below_alloc (Below.refl _ w6) (.cells #[.int .i64 2, .int .i64 3] 48))
  go_wp2_with fail
  refine (sameR_walk A3 (some ⟨w6.heap.size, 0, none⟩) 1 1 c3 1 [(2, 3)] [(2, 3)] _ rfl rfl (Kd.R_reads' (Kd.R_below HR6.out HL6.out)).2.2 (C_kr1 (heap_alloc_new w6 _)) (by decide)).mono ?_
  rintro e w7 ⟨rfl, q7, rfl⟩
  rw [decide_eq_true rfl]
  obtain ⟨w7, hw7⟩ : ∃ w7, (w6.alloc (.cells #[.int .i64 2, .int .i64 3] 48)).drewN q7 = w7 := ⟨_, rfl⟩
  have hb7 : Below w6.heap.size w6 w7 := by rw [← hw7]; exact pw_below_drewN HL6.out q7
  rw [hw7]
  have H7 := Aside0.mk (H6.out.below hb7)
  have HT7 := Aside0.mk (HT6.out.below hb7)
  have HU7 := Aside0.mk (HU6.out.below hb7)
  have HB7 := Aside0.mk (below_then HB6.out HB6.out.size hb7)
  clear hw7 hb7 H6 HT6 HU6 HR6 HB6 HL6
  have hc7 := HCV.out w7 w7.heap.size rfl 121
  go_wp2_with fail
  have HLa := Aside0.mk (show Below w7.heap.size w7 ((w7.alloc (.cells #[.int .u8 121] 5 (1, 2))).alloc (.cells #[.slice (some ⟨w7.heap.size, 0, none⟩) 1 1] 22)) from below_alloc (below_alloc (Below.refl _ _) _) _)
  have hlit := C_lit (W := (w7.alloc (.cells #[.int .u8 121] 5 (1, 2))).alloc (.cells #[.slice (some ⟨w7.heap.size, 0, none⟩) 1 1] 22)) (b := w7.heap.size + 1) [(some ⟨w7.heap.size, 0, none⟩, 1, 1)] [[121]] rfl (by have h := heap_alloc_new (w7.alloc (.cells #[.int .u8 121] 5 (1, 2))) (.cells #[.slice (some ⟨w7.heap.size, 0, none⟩) 1 1] 22); rw [World.size_alloc] at h; exact h) (fun j x l hx hl => by
    match j with
    | 0 =>
      obtain rfl := Option.some.inj hx
      obtain rfl := Option.some.inj hl
      exact ⟨rfl, Nat.le_refl _, Kd.C_alloc (C_one w7 121 _ rfl) _⟩
    | j + 1 => simp at hx) (by decide)
  refine (parts_walk A4 (some ⟨w7.heap.size + 1, 0, none⟩) 1 1 c4 1 [[121]] [[121]] _ rfl rfl (HU7.out.below HLa.out).C hlit (by decide) bs1 bs1).mono ?_
  clear hlit
  rintro e w8 ⟨rfl, q8, rfl⟩
  rw [decide_eq_true rfl]
  obtain ⟨w8, hw8⟩ : ∃ w8, ((w7.alloc (.cells #[.int .u8 121] 5 (1, 2))).alloc (.cells #[.slice (some ⟨w7.heap.size, 0, none⟩) 1 1] 22)).drewN q8 = w8 := ⟨_, rfl⟩
  have hb8 : Below w7.heap.size w7 w8 := by rw [← hw8]; exact pw_below_drewN HLa.out q8
  rw [hw8]
  have H8 := Aside0.mk (H7.out.below hb8)
  have HT8 := Aside0.mk (HT7.out.below hb8)
  have HB8 := Aside0.mk (below_then HB7.out HB7.out.size hb8)
  clear hw8 hb8 hc7 H7 HT7 HU7 HB7 HLa
  have hc8 := HCV.out w8 w8.heap.size rfl 122
  have hc9 := HCV.out (w8.alloc (.cells #[.int .u8 122] 5 (1, 2))) (w8.heap.size + 1) (World.size_alloc _ _) 120
  go_wp2_with fail
  have HLa := Aside0.mk (show Below w8.heap.size w8 (((w8.alloc (.cells #[.int .u8 122] 5 (1, 2))).alloc (.cells #[.int .u8 120] 5 (1, 2))).alloc (.cells #[.slice (some ⟨w8.heap.size, 0, none⟩) 1 1, .slice (some ⟨w8.heap.size + 1, 0, none⟩) 1 1] 22)) from below_alloc (below_alloc (below_alloc (Below.refl _ _) _) _) _)
  have hlit := C_lit (W := ((w8.alloc (.cells #[.int .u8 122] 5 (1, 2))).alloc (.cells #[.int .u8 120] 5 (1, 2))).alloc (.cells #[.slice (some ⟨w8.heap.size, 0, none⟩) 1 1, .slice (some ⟨w8.heap.size + 1, 0, none⟩) 1 1] 22)) (b := w8.heap.size + 1 + 1) [(some ⟨w8.heap.size, 0, none⟩, 1, 1), (some ⟨w8.heap.size + 1, 0, none⟩, 1, 1)] [[122], [120]] rfl (by have h := heap_alloc_new ((w8.alloc (.cells #[.int .u8 122] 5 (1, 2))).alloc (.cells #[.int .u8 120] 5 (1, 2))) (.cells #[.slice (some ⟨w8.heap.size, 0, none⟩) 1 1, .slice (some ⟨w8.heap.size + 1, 0, none⟩) 1 1] 22); rw [World.size_alloc, World.size_alloc] at h; exact h) (fun j x l hx hl => by
    match j with
    | 0 =>
      obtain rfl := Option.some.inj hx
      obtain rfl := Option.some.inj hl
      exact ⟨rfl, Nat.le_refl _, Kd.C_alloc (Kd.C_alloc (C_one w8 122 _ rfl) _) _⟩
    | 1 =>
      obtain rfl := Option.some.inj hx
      obtain rfl := Option.some.inj hl
      exact ⟨rfl, Nat.le_refl _, Kd.C_alloc (C_one _ 120 _ (World.size_alloc _ _)) _⟩
    | j + 2 => simp at hx) (by decide)
  refine (parts_walk A5 (some ⟨w8.heap.size + 1 + 1, 0, none⟩) 2 2 c5 2 [[122], [120]] [[122], [120]] _ rfl rfl (HT8.out.below HLa.out).C hlit (by decide) bs2 bs2).mono ?_
  clear hlit
  rintro e w9 ⟨rfl, q9, rfl⟩
  rw [decide_eq_true rfl]
  obtain ⟨w9, hw9⟩ : ∃ w9, (((w8.alloc (.cells #[.int .u8 122] 5 (1, 2))).alloc (.cells #[.int .u8 120] 5 (1, 2))).alloc (.cells #[.slice (some ⟨w8.heap.size, 0, none⟩) 1 1, .slice (some ⟨w8.heap.size + 1, 0, none⟩) 1 1] 22)).drewN q9 = w9 := ⟨_, rfl⟩
  have hb9 : Below w8.heap.size w8 w9 := by rw [← hw9]; exact pw_below_drewN HLa.out q9
  rw [hw9]
  have H9 := Aside0.mk (H8.out.below hb9)
  have HB9 := Aside0.mk (below_then HB8.out HB8.out.size hb9)
  clear hw9 hb9 hc8 hc9 H8 HT8 HB8 HLa
  go_wp2_with fail
  refine (rv_next H9.out).mono ?_
  rintro e w10 ⟨rfl, rfl⟩
  go_wp2
  go_ret
  exact ⟨rfl, HB9.out⟩
end Go.Proofs.Ythkiedkifhloeaa.Lib
