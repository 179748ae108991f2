/- filter.walk, walked by hand: the bytes that come or that were, one by one. -/
import Derived.Test.YtnnhbibbhcbkcaaF0
import Derived.Test.YtnnhbibbhcbkcaaG
namespace Go.Proofs.Ytnnhbibbhcbkcaa.Lib
open Go.RowKit Go.Proofs.YtnnhbibbhcbkcaaW.PrintWords Go.Proofs.YtnnhbibbhcbkcaaW.PrintLast Go.Proofs.YtnnhbibbhcbkcaaW.PrintMore
attribute [local go_sem] max2_int min2_int max_two min_two
set_option linter.unusedVariables false
set_option linter.unusedSimpArgs false
def BytesB (l : List Int) : Prop := ∀ x ∈ l, 0 ≤ x ∧ x ≤ 255
instance (l : List Int) : Decidable (BytesB l) := by unfold BytesB; infer_instance
/-- a byte of what is known, one step back -/
def back (l : List Int) (i s : Int) : Int := if s ≤ i then rd l (i - s) else 0
theorem rd_range {l : List Int} (h : BytesB l) (i : Int) : 0 ≤ rd l i ∧ rd l i ≤ 255 := by
  unfold rd
  rw [List.getD_eq_getElem?_getD]
  cases hq : l[i.toNat]? with
  | none => simp
  | some v => simpa using h v (List.mem_of_getElem? hq)
theorem back_range {l : List Int} (h : BytesB l) (i s : Int) : 0 ≤ back l i s ∧ back l i s ≤ 255 := by
  unfold back; split
  · exact rd_range h _
  · omega
def oneW (k s : Int) (row above X : List Int) (undo : Bool) (i : Int) : Int :=
  if undo then (rd row i + guessN k (back X i s) (rd above i) (back above i s)) % 256
  else (rd row i - guessN k (back row i s) (rd above i) (back above i s)) % 256
def walkL (k s : Int) (row above : List Int) (undo : Bool) : Nat → Int → List Int → List Int
  | 0, _, X => X
  | d + 1, i, X => walkL k s row above undo d (i + 1) (X.set i.toNat (oneW k s row above X undo i))
def filter_walk.f (a0 : Int) (l1 l2 : List Int) (a3 : Int) (a4 : Bool) : Option (List Int) :=
  if 1 ≤ a3 ∧ a3 ≤ 8 ∧ l1.length ≤ 140737488355328 ∧ l2.length ≤ 9223372036854775807 ∧ BytesB l1 ∧ BytesB l2 then some (walkL a0 a3 l1 l2 a4 l1.length 0 (List.replicate l1.length 0)) else none
theorem rd_beyond {l : List Int} {i : Int} (h : l.length ≤ i) : rd l i = 0 := by
  unfold rd
  rw [List.getD_eq_getElem?_getD, List.getElem?_eq_none (by omega)]; rfl

theorem round_end {k s : Int} {l1 l2 X R : List Int} {undo : Bool} {n g co : Nat} {x : Int} {w w2 : World} (x0 : 0 ≤ x) (hlt : x < n) (HW : Aside0 (walkL k s l1 l2 undo (n - x.toNat) x X = R)) (HL : Aside0 (X.length = n))
    (G1 : Aside0 (w.heap.size ≤ g)) (HO2 : Aside0 (Kd.R (Kd.int .u8) 5 w2 w.heap.size (fun _ => True) (.slice (some ⟨g, 0, none⟩) n co) X)) (HB2 : Aside0 (Below w.heap.size w w2)) {v : Int} (hv : v = oneW k s l1 l2 X undo x) :
    (∃ (x_1 : Int) (X' : List Int), Value.int IntKind.i64 (x + 1) = Value.int IntKind.i64 x_1 ∧ 0 ≤ x_1 ∧ x_1 ≤ n ∧ Aside0 (walkL k s l1 l2 undo (n - x_1.toNat) x_1 X' = R) ∧ Aside0 (X'.length = n) ∧
      Aside0 (Kd.R (Kd.int .u8) 5 (w2.setCell ⟨g, x.toNat, none⟩ (.int .u8 v)) w.heap.size (fun _ => True) (.slice (some ⟨g, 0, none⟩) n co) X') ∧ Aside0 (Below w.heap.size w (w2.setCell ⟨g, x.toNat, none⟩ (.int .u8 v)))) ∧
    n - (intOf (Value.int IntKind.i64 (x + 1))).toNat < n - (intOf (Value.int IntKind.i64 x)).toNat := by
  refine ⟨⟨x + 1, X.set x.toNat v, rfl, by omega, by omega, ⟨?_⟩, ⟨by rw [List.length_set]; exact HL.out⟩, ⟨Kd.R_putn HO2.out x v⟩, ⟨HB2.out.setCell (p := ⟨g, x.toNat, none⟩) G1.out _⟩⟩, by simp [intOf]; omega⟩
  rw [← HW.out, hv, show n - x.toNat = (n - (x + 1).toNat) + 1 by omega]
  rfl

theorem round_end_b {k s : Int} {l1 l2 X R : List Int} {undo : Bool} {n g co : Nat} {x : Int} {w w2 : World} (HX : Aside0 (BytesB X)) (x0 : 0 ≤ x) (hlt : x < n) (HW : Aside0 (walkL k s l1 l2 undo (n - x.toNat) x X = R)) (HL : Aside0 (X.length = n))
    (G1 : Aside0 (w.heap.size ≤ g)) (HO2 : Aside0 (Kd.R (Kd.int .u8) 5 w2 w.heap.size (fun _ => True) (.slice (some ⟨g, 0, none⟩) n co) X)) (HB2 : Aside0 (Below w.heap.size w w2)) {v : Int} (hv : v = oneW k s l1 l2 X undo x) :
    (∃ (x_1 : Int) (X' : List Int), Value.int IntKind.i64 (x + 1) = Value.int IntKind.i64 x_1 ∧ 0 ≤ x_1 ∧ x_1 ≤ n ∧ Aside0 (walkL k s l1 l2 undo (n - x_1.toNat) x_1 X' = R) ∧ Aside0 (X'.length = n) ∧ Aside0 (BytesB X') ∧
      Aside0 (Kd.R (Kd.int .u8) 5 (w2.setCell ⟨g, x.toNat, none⟩ (.int .u8 v)) w.heap.size (fun _ => True) (.slice (some ⟨g, 0, none⟩) n co) X') ∧ Aside0 (Below w.heap.size w (w2.setCell ⟨g, x.toNat, none⟩ (.int .u8 v)))) ∧
    n - (intOf (Value.int IntKind.i64 (x + 1))).toNat < n - (intOf (Value.int IntKind.i64 x)).toNat := by
  refine ⟨⟨x + 1, X.set x.toNat v, rfl, by omega, by omega, ⟨?_⟩, ⟨by rw [List.length_set]; exact HL.out⟩, ⟨fun u hu => (List.mem_or_eq_of_mem_set hu).elim (HX.out u) (fun h => by rw [h, hv]; unfold oneW; split <;> omega)⟩, ⟨Kd.R_putn HO2.out x v⟩, ⟨HB2.out.setCell (p := ⟨g, x.toNat, none⟩) G1.out _⟩⟩, by simp [intOf]; omega⟩
  rw [← HW.out, hv, show n - x.toNat = (n - (x + 1).toNat) + 1 by omega]
  rfl
set_option maxHeartbeats 1000000 in
set_option maxRecDepth 100000 in
theorem walk_do (k : Int) (A1 : Option Addr) (c1 : Nat) (l1 : List Int) (A2 : Option Addr) (c2 : Nat) (l2 : List Int) (s : Int) (w : World) (hr1 : Kd.C (Kd.int .u8) w A1 l1.length l1) (hr2 : Kd.C (Kd.int .u8) w A2 l2.length l2)
    (s1 : 1 ≤ s) (s8 : s ≤ 8) (hn : l1.length ≤ 140737488355328) (hm : l2.length ≤ 9223372036854775807) (b1 : BytesB l1) (b2 : BytesB l2) :
    Calls Try.prog 18 #[.int .i64 k, .slice A1 l1.length c1, .slice A2 l2.length c2, .int .i64 s, .bool false] w fun e w' => ∃ v0_ : Value, e = .returned v0_ ∧ Kd.R (Kd.int .u8) 5 w' w.heap.size (fun _ => True) v0_ (walkL k s l1 l2 false l1.length 0 (List.replicate l1.length 0)) ∧ Below w.heap.size w w' := by
  have HR1 := Aside0.mk hr1
  have HR2 := Aside0.mk hr2
  have B1 := Aside0.mk b1
  have B2 := Aside0.mk b2
  clear hr1 hr2 b1 b2
  have HB := Aside0.mk (Below.refl w.heap.size w)
  obtain ⟨n, hn'⟩ : ∃ n, l1.length = n := ⟨_, rfl⟩
  obtain ⟨m, hm'⟩ : ∃ m, l2.length = m := ⟨_, rfl⟩
  rw [hn'] at HR1 hn ⊢
  rw [hm'] at HR2 hm ⊢
  have HN := Aside0.mk hn'
  have HM := Aside0.mk hm'
  clear hn' hm'
  obtain ⟨R, hR⟩ : ∃ R, walkL k s l1 l2 false n 0 (List.replicate n 0) = R := ⟨_, rfl⟩
  rw [hR]
  have HW := Aside0.mk hR
  clear hR
  go_enter Try.func18, Try.ntmps18
  go_wp2_with (first | ((with_reducible refine gate_dst (N := 21) rfl ?_); refine Kd.R_make (Kd.int .u8) _ 5 rfl (N := 21) rfl 22 _ _ rfl (n : Int) rfl rfl Try.underlying22 (.int .u8 0) 1 info5 rfl (by decide) (by omega) 0 (ok := fun _ => True) (okp := fun _ => True) rfl (fun _ hk => hk) trivial (by omega) (by omega) (Below.refl _ _) (Nat.le_refl _) ?_; intro v1 w1 ho hb hg_ hnew_; clear hg_ hnew_))
  have HO := Aside0.mk ho
  replace HB := Aside0.mk hb
  clear ho hb
  simp only [Int.toNat_natCast] at HO
  go_loopw [27] (fun i wr => ∃ (x : Int) (X : List Int), i = .int .i64 x ∧ 0 ≤ x ∧ x ≤ n ∧ Aside0 (walkL k s l1 l2 false (n - x.toNat) x X = R) ∧ Aside0 (X.length = n) ∧ Aside0 (Kd.R (Kd.int .u8) 5 wr w.heap.size (fun _ => True) v1 X) ∧ Aside0 (Below w.heap.size w wr)) (fun i _ => n - (intOf i).toNat)
  case atStart => exact ⟨0, List.replicate n 0, rfl, by omega, by omega, HW, ⟨by simp⟩, HO, HB⟩
  case round =>
    clear HO HB HW
    obtain ⟨x, X, rfl, x0, xn, HW, HL, HO, HB⟩ := hrel
    by_cases hlt : x < n
    · have hx1 : Aside0 (∃ ad1, A1 = some ad1 ∧ wr.cell? (ad1.add x.toNat) = some (.int .u8 (rd l1 x))) := ⟨Kd.at_int (Kd.C_below HR1.out HB.out) x x0 hlt⟩
      obtain ⟨g, co, ev, hg1, hg2, hg3⟩ := Kd.R_form HO.out (by rw [HL.out]; omega)
      rw [HL.out] at ev
      have G1 := Aside0.mk hg1
      have G2 := Aside0.mk hg2
      clear hg1 hg2 hg3
      subst ev
      by_cases hs : s ≤ x
      · obtain ⟨ad0, e0, hcs⟩ := Kd.at_int (Kd.C_below HR1.out HB.out) (x - s) (by omega) (by omega)
        obtain ⟨ad1, e1, hx1⟩ := hx1.out
        obtain rfl : ad0 = ad1 := by rw [e0] at e1; exact Option.some.inj e1
        cases e0
        by_cases hco : x - s < m
        · obtain ⟨ad2, e2, hx2⟩ := Kd.at_int (Kd.C_below HR2.out HB.out) (x - s) (by omega) hco
          cases e2
          by_cases hu : x < m
          · obtain ⟨ad3, e3, hx3⟩ := Kd.at_int (Kd.C_below HR2.out HB.out) x x0 hu
            obtain rfl : ad2 = ad3 := by injection e3
            clear e3
            go_wp2_with (go_at_call 21; refine (guess_any k (rd l1 (x - s)) (rd l2 x) (rd l2 (x - s)) _ (rd_range B1.out _) (rd_range B2.out _) (rd_range B2.out _)).mono ?_; rintro e w2 ⟨rfl, hb2⟩; (have HO2 := Aside0.mk (Kd.R_below HO.out hb2)); (have HB2 := Aside0.mk (below_step HB.out hb2)); (obtain ⟨hc, hf⟩ := Kd.R_celln (d := (0 : Int)) HO2.out x x0 hlt); clear hb2)
            exact round_end x0 hlt HW HL G1 HO2 HB2 (by unfold oneW back; simp only [if_pos hs]; rfl)
          · go_wp2_with (go_at_call 21; refine (guess_any k (rd l1 (x - s)) 0 (rd l2 (x - s)) _ (rd_range B1.out _) (by omega) (rd_range B2.out _)).mono ?_; rintro e w2 ⟨rfl, hb2⟩; (have HO2 := Aside0.mk (Kd.R_below HO.out hb2)); (have HB2 := Aside0.mk (below_step HB.out hb2)); (obtain ⟨hc, hf⟩ := Kd.R_celln (d := (0 : Int)) HO2.out x x0 hlt); clear hb2)
            exact round_end x0 hlt HW HL G1 HO2 HB2 (by unfold oneW back; simp only [if_pos hs]; rw [rd_beyond (l := l2) (i := x) (by rw [HM.out]; omega)]; rfl)
        · go_wp2_with (go_at_call 21; refine (guess_any k (rd l1 (x - s)) 0 0 _ (rd_range B1.out _) (by omega) (by omega)).mono ?_; rintro e w2 ⟨rfl, hb2⟩; (have HO2 := Aside0.mk (Kd.R_below HO.out hb2)); (have HB2 := Aside0.mk (below_step HB.out hb2)); (obtain ⟨hc, hf⟩ := Kd.R_celln (d := (0 : Int)) HO2.out x x0 hlt); clear hb2)
          exact round_end x0 hlt HW HL G1 HO2 HB2 (by unfold oneW back; simp only [if_pos hs]; rw [rd_beyond (l := l2) (i := x) (by rw [HM.out]; omega)]; rw [rd_beyond (l := l2) (i := x - s) (by rw [HM.out]; omega)]; rfl)
      · obtain ⟨ad1, e1, hx1⟩ := hx1.out
        cases e1
        by_cases hu : x < m
        · obtain ⟨ad2, e2, hx2⟩ := Kd.at_int (Kd.C_below HR2.out HB.out) x x0 hu
          cases e2
          go_wp2_with (go_at_call 21; refine (guess_any k 0 (rd l2 x) 0 _ (by omega) (rd_range B2.out _) (by omega)).mono ?_; rintro e w2 ⟨rfl, hb2⟩; (have HO2 := Aside0.mk (Kd.R_below HO.out hb2)); (have HB2 := Aside0.mk (below_step HB.out hb2)); (obtain ⟨hc, hf⟩ := Kd.R_celln (d := (0 : Int)) HO2.out x x0 hlt); clear hb2)
          exact round_end x0 hlt HW HL G1 HO2 HB2 (by unfold oneW back; simp only [if_neg (show ¬ s ≤ x by omega)]; rfl)
        · go_wp2_with (go_at_call 21; refine (guess_any k 0 0 0 _ (by omega) (by omega) (by omega)).mono ?_; rintro e w2 ⟨rfl, hb2⟩; (have HO2 := Aside0.mk (Kd.R_below HO.out hb2)); (have HB2 := Aside0.mk (below_step HB.out hb2)); (obtain ⟨hc, hf⟩ := Kd.R_celln (d := (0 : Int)) HO2.out x x0 hlt); clear hb2)
          exact round_end x0 hlt HW HL G1 HO2 HB2 (by unfold oneW back; simp only [if_neg (show ¬ s ≤ x by omega)]; rw [rd_beyond (l := l2) (i := x) (by rw [HM.out]; omega)]; rfl)
    · go_wp2
      go_ret
      have hd : n - x.toNat = 0 := by omega
      have hw := HW.out
      rw [hd] at hw
      have hxr : X = R := hw
      subst hxr
      exact ⟨v1, rfl, HO.out, HB.out⟩
set_option maxHeartbeats 1000000 in
set_option maxRecDepth 100000 in
theorem walk_undo (k : Int) (A1 : Option Addr) (c1 : Nat) (l1 : List Int) (A2 : Option Addr) (c2 : Nat) (l2 : List Int) (s : Int) (w : World) (hr1 : Kd.C (Kd.int .u8) w A1 l1.length l1) (hr2 : Kd.C (Kd.int .u8) w A2 l2.length l2)
    (s1 : 1 ≤ s) (s8 : s ≤ 8) (hn : l1.length ≤ 140737488355328) (hm : l2.length ≤ 9223372036854775807) (b1 : BytesB l1) (b2 : BytesB l2) :
    Calls Try.prog 18 #[.int .i64 k, .slice A1 l1.length c1, .slice A2 l2.length c2, .int .i64 s, .bool true] w fun e w' => ∃ v0_ : Value, e = .returned v0_ ∧ Kd.R (Kd.int .u8) 5 w' w.heap.size (fun _ => True) v0_ (walkL k s l1 l2 true l1.length 0 (List.replicate l1.length 0)) ∧ Below w.heap.size w w' := by
  have HR1 := Aside0.mk hr1
  have HR2 := Aside0.mk hr2
  have B1 := Aside0.mk b1
  have B2 := Aside0.mk b2
  clear hr1 hr2 b1 b2
  have HB := Aside0.mk (Below.refl w.heap.size w)
  obtain ⟨n, hn'⟩ : ∃ n, l1.length = n := ⟨_, rfl⟩
  obtain ⟨m, hm'⟩ : ∃ m, l2.length = m := ⟨_, rfl⟩
  rw [hn'] at HR1 hn ⊢
  rw [hm'] at HR2 hm ⊢
  have HN := Aside0.mk hn'
  have HM := Aside0.mk hm'
  clear hn' hm'
  obtain ⟨R, hR⟩ : ∃ R, walkL k s l1 l2 true n 0 (List.replicate n 0) = R := ⟨_, rfl⟩
  rw [hR]
  have HW := Aside0.mk hR
  clear hR
  go_enter Try.func18, Try.ntmps18
  go_wp2_with (first | ((with_reducible refine gate_dst (N := 21) rfl ?_); refine Kd.R_make (Kd.int .u8) _ 5 rfl (N := 21) rfl 22 _ _ rfl (n : Int) rfl rfl Try.underlying22 (.int .u8 0) 1 info5 rfl (by decide) (by omega) 0 (ok := fun _ => True) (okp := fun _ => True) rfl (fun _ hk => hk) trivial (by omega) (by omega) (Below.refl _ _) (Nat.le_refl _) ?_; intro v1 w1 ho hb hg_ hnew_; clear hg_ hnew_))
  have HO := Aside0.mk ho
  replace HB := Aside0.mk hb
  clear ho hb
  simp only [Int.toNat_natCast] at HO
  go_loopw [27] (fun i wr => ∃ (x : Int) (X : List Int), i = .int .i64 x ∧ 0 ≤ x ∧ x ≤ n ∧ Aside0 (walkL k s l1 l2 true (n - x.toNat) x X = R) ∧ Aside0 (X.length = n) ∧ Aside0 (BytesB X) ∧ Aside0 (Kd.R (Kd.int .u8) 5 wr w.heap.size (fun _ => True) v1 X) ∧ Aside0 (Below w.heap.size w wr)) (fun i _ => n - (intOf i).toNat)
  case atStart => exact ⟨0, List.replicate n 0, rfl, by omega, by omega, HW, ⟨by simp⟩, ⟨fun v hv => by rw [List.eq_of_mem_replicate hv]; omega⟩, HO, HB⟩
  case round =>
    clear HO HB HW
    obtain ⟨x, X, rfl, x0, xn, HW, HL, HX, HO, HB⟩ := hrel
    by_cases hlt : x < n
    · have hx1 : Aside0 (∃ ad1, A1 = some ad1 ∧ wr.cell? (ad1.add x.toNat) = some (.int .u8 (rd l1 x))) := ⟨Kd.at_int (Kd.C_below HR1.out HB.out) x x0 hlt⟩
      obtain ⟨g, co, ev, hg1, hg2, hg3⟩ := Kd.R_form HO.out (by rw [HL.out]; omega)
      rw [HL.out] at ev
      have G1 := Aside0.mk hg1
      have G2 := Aside0.mk hg2
      clear hg1 hg2 hg3
      subst ev
      have BX := HX
      by_cases hs : s ≤ x
      · obtain ⟨hcs, _⟩ := Kd.R_celln (d := (0 : Int)) HO.out (x - s) (by omega) (by omega)
        replace hcs : wr.cell? ⟨g, (x - s).toNat, none⟩ = some (.int .u8 (rd X (x - s))) := hcs
        obtain ⟨ad1, e1, hx1⟩ := hx1.out
        cases e1
        by_cases hco : x - s < m
        · obtain ⟨ad2, e2, hx2⟩ := Kd.at_int (Kd.C_below HR2.out HB.out) (x - s) (by omega) hco
          cases e2
          by_cases hu : x < m
          · obtain ⟨ad3, e3, hx3⟩ := Kd.at_int (Kd.C_below HR2.out HB.out) x x0 hu
            obtain rfl : ad2 = ad3 := by injection e3
            clear e3
            go_wp2_with (go_at_call 21; refine (guess_any k (rd X (x - s)) (rd l2 x) (rd l2 (x - s)) _ (rd_range BX.out _) (rd_range B2.out _) (rd_range B2.out _)).mono ?_; rintro e w2 ⟨rfl, hb2⟩; (have HO2 := Aside0.mk (Kd.R_below HO.out hb2)); (have HB2 := Aside0.mk (below_step HB.out hb2)); (obtain ⟨hc, hf⟩ := Kd.R_celln (d := (0 : Int)) HO2.out x x0 hlt); clear hb2)
            exact round_end_b HX x0 hlt HW HL G1 HO2 HB2 (by unfold oneW back; simp only [if_pos hs]; rfl)
          · go_wp2_with (go_at_call 21; refine (guess_any k (rd X (x - s)) 0 (rd l2 (x - s)) _ (rd_range BX.out _) (by omega) (rd_range B2.out _)).mono ?_; rintro e w2 ⟨rfl, hb2⟩; (have HO2 := Aside0.mk (Kd.R_below HO.out hb2)); (have HB2 := Aside0.mk (below_step HB.out hb2)); (obtain ⟨hc, hf⟩ := Kd.R_celln (d := (0 : Int)) HO2.out x x0 hlt); clear hb2)
            exact round_end_b HX x0 hlt HW HL G1 HO2 HB2 (by unfold oneW back; simp only [if_pos hs]; rw [rd_beyond (l := l2) (i := x) (by rw [HM.out]; omega)]; rfl)
        · go_wp2_with (go_at_call 21; refine (guess_any k (rd X (x - s)) 0 0 _ (rd_range BX.out _) (by omega) (by omega)).mono ?_; rintro e w2 ⟨rfl, hb2⟩; (have HO2 := Aside0.mk (Kd.R_below HO.out hb2)); (have HB2 := Aside0.mk (below_step HB.out hb2)); (obtain ⟨hc, hf⟩ := Kd.R_celln (d := (0 : Int)) HO2.out x x0 hlt); clear hb2)
          exact round_end_b HX x0 hlt HW HL G1 HO2 HB2 (by unfold oneW back; simp only [if_pos hs]; rw [rd_beyond (l := l2) (i := x) (by rw [HM.out]; omega)]; rw [rd_beyond (l := l2) (i := x - s) (by rw [HM.out]; omega)]; rfl)
      · obtain ⟨ad1, e1, hx1⟩ := hx1.out
        cases e1
        by_cases hu : x < m
        · obtain ⟨ad2, e2, hx2⟩ := Kd.at_int (Kd.C_below HR2.out HB.out) x x0 hu
          cases e2
          go_wp2_with (go_at_call 21; refine (guess_any k 0 (rd l2 x) 0 _ (by omega) (rd_range B2.out _) (by omega)).mono ?_; rintro e w2 ⟨rfl, hb2⟩; (have HO2 := Aside0.mk (Kd.R_below HO.out hb2)); (have HB2 := Aside0.mk (below_step HB.out hb2)); (obtain ⟨hc, hf⟩ := Kd.R_celln (d := (0 : Int)) HO2.out x x0 hlt); clear hb2)
          exact round_end_b HX x0 hlt HW HL G1 HO2 HB2 (by unfold oneW back; simp only [if_neg (show ¬ s ≤ x by omega)]; rfl)
        · go_wp2_with (go_at_call 21; refine (guess_any k 0 0 0 _ (by omega) (by omega) (by omega)).mono ?_; rintro e w2 ⟨rfl, hb2⟩; (have HO2 := Aside0.mk (Kd.R_below HO.out hb2)); (have HB2 := Aside0.mk (below_step HB.out hb2)); (obtain ⟨hc, hf⟩ := Kd.R_celln (d := (0 : Int)) HO2.out x x0 hlt); clear hb2)
          exact round_end_b HX x0 hlt HW HL G1 HO2 HB2 (by unfold oneW back; simp only [if_neg (show ¬ s ≤ x by omega)]; rw [rd_beyond (l := l2) (i := x) (by rw [HM.out]; omega)]; rfl)
    · go_wp2
      go_ret
      have hd : n - x.toNat = 0 := by omega
      have hw := HW.out
      rw [hd] at hw
      have hxr : X = R := hw
      subst hxr
      exact ⟨v1, rfl, HO.out, HB.out⟩
theorem filter_walk.calls (a0 : Int) (A1 : Option Addr) (c1 : Nat) (l1 : List Int) (A2 : Option Addr) (c2 : Nat) (l2 : List Int) (a3 : Int) (a4 : Bool) (r : List Int) (w : World) (hr1 : Kd.C (Kd.int .u8) w A1 l1.length l1) (hc1 : l1.length ≤ c1) (hr2 : Kd.C (Kd.int .u8) w A2 l2.length l2) (hc2 : l2.length ≤ c2) (h : filter_walk.f a0 l1 l2 a3 a4 = some r) :
    Calls Try.prog 18 #[.int .i64 a0, .slice A1 l1.length c1, .slice A2 l2.length c2, .int .i64 a3, .bool a4] w fun e w' => ∃ v0_ : Value, e = .returned v0_ ∧ Kd.R (Kd.int .u8) 5 w' w.heap.size (fun _ => True) v0_ r ∧ Below w.heap.size w w' := by
  unfold filter_walk.f at h
  split at h
  · rename_i hh
    obtain ⟨h1, h2, h3, h4, h5, h6⟩ := hh
    obtain rfl := Option.some.inj h
    cases a4
    · exact walk_do a0 A1 c1 l1 A2 c2 l2 a3 w hr1 hr2 h1 h2 h3 h4 h5 h6
    · exact walk_undo a0 A1 c1 l1 A2 c2 l2 a3 w hr1 hr2 h1 h2 h3 h4 h5 h6
  · simp at h
end Go.Proofs.Ytnnhbibbhcbkcaa.Lib
