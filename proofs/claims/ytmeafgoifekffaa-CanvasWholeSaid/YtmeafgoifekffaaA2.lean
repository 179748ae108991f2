/- few; what Lay keeps; two canvases side by side. -/
import Derived.Test.YtmeafgoifekffaaV15
namespace Go.Proofs.Ytmeafgoifekffaa.Lib
open Go.RowKit Go.Shelf Go.Proofs.YtmeafgoifekffaaW.PrintWords Go.Proofs.YtmeafgoifekffaaW.PrintLast Go.Proofs.YtmeafgoifekffaaW.PrintMore
set_option linter.unusedVariables false
set_option linter.unusedSimpArgs false
/-- what is known of a line that came in -/
def LineOk (x : S35) : Prop := -9223372036854775808 ≤ x.f0 ∧ x.f0 ≤ 9223372036854775807 ∧ x.f1.length ≤ 8796093022208 ∧ x.f2.length ≤ 17592186044416
theorem few_l0 (xs : List S35) (hx : ∀ x ∈ xs, LineOk x) : ∀ (m i q : Nat), i + m = xs.length → i ≤ 61 → q ≤ 3000 → ∀ k, m < k → ∃ r, halftonelaw19_few.l0 k (q : Int) xs (xs.length : Int) (i : Int) = some r ∧ (r = true → xs.length ≤ 61 ∧ ∀ j, i ≤ j → j < xs.length → (xs.getD j z35).f1.length ≤ 3000 ∧ (xs.getD j z35).f2.length ≤ 3000)
  | 0, i, q, h, h1, h2, k + 1, _ => by
    rw [halftonelaw19_few.l0, if_neg (by omega)]
    exact ⟨true, rfl, fun _ => ⟨by omega, fun j h3 h4 => by omega⟩⟩
  | m + 1, i, q, h, h1, h2, k + 1, hk => by
    have e : rd_T35 xs (i : Int) = xs.getD i z35 := by unfold rd_T35; rw [Int.toNat_natCast]
    obtain ⟨o1, o2, o3, o4⟩ : LineOk (xs.getD i z35) := by
      rw [List.getD_eq_getElem?_getD, List.getElem?_eq_getElem (by omega)]
      exact hx _ (List.getElem_mem _)
    obtain ⟨a, ha⟩ : ∃ a, (xs.getD i z35).f1.length = a := ⟨_, rfl⟩
    obtain ⟨b, hb⟩ : ∃ b, (xs.getD i z35).f2.length = b := ⟨_, rfl⟩
    rw [halftonelaw19_few.l0, if_pos (by omega), if_pos (by omega), if_pos (by omega), e, ha, hb]
    rw [ha] at o3
    rw [hb] at o4
    rw [wrap64_in' (x := (a : Int) + b) (by omega) (by omega), wrap64_in' (x := (q : Int) + ((a : Int) + b)) (by omega) (by omega), wrap64_in' (x := (i : Int) + 1) (by omega) (by omega)]
    by_cases h3 : (q : Int) + ((a : Int) + b) > 3000
    · rw [if_pos h3]
      exact ⟨false, rfl, by simp⟩
    · rw [if_neg h3]
      by_cases h4 : (i : Int) > 60
      · rw [if_pos h4]
        exact ⟨false, rfl, by simp⟩
      · rw [if_neg h4]
        obtain ⟨r, hr, hp⟩ := few_l0 xs hx m (i + 1) (q + (a + b)) (by omega) (by omega) (by omega) k (by omega)
        push_cast at hr
        refine ⟨r, hr, fun e => ⟨(hp e).1, fun j h5 h6 => ?_⟩⟩
        rcases Nat.lt_or_ge i j with h7 | h7
        · exact (hp e).2 j (by omega) h6
        · obtain rfl : j = i := by omega
          omega
/-- what few answers -/
def FewPost (xs : List S35) (w : World) (e : Ending) (w' : World) : Prop := ∃ b, e = .returned (.bool b) ∧ (b = true → xs.length ≤ 61 ∧ ∀ j, j < xs.length → (xs.getD j z35).f1.length ≤ 3000 ∧ (xs.getD j z35).f2.length ≤ 3000) ∧ Below w.heap.size w w'
theorem few_walk (A0 : Option Addr) (c0 : Nat) (xs : List S35) (w0 w : World) (hr : Kd.C k35 w0 A0 xs.length xs) (hc : xs.length ≤ c0) (hw : Below w0.heap.size w0 w) (hok : ∀ x ∈ xs, LineOk x) :
    Calls Try.prog 11 #[.slice A0 xs.length c0] w fun e w' => FewPost xs w e w' := by
  obtain ⟨r, h1, h2⟩ := few_l0 xs hok xs.length 0 0 (by omega) (by omega) (by omega) (xs.length + 1) (by omega)
  refine (halftonelaw19_few.calls (xs.length + 1) A0 c0 xs r w (Kd.C_below hr hw) hc h1).mono ?_
  rintro e w' ⟨rfl, hb⟩
  exact ⟨r, rfl, fun e => ⟨(h2 e).1, fun j hj => (h2 e).2 j (Nat.zero_le _) hj⟩, hb⟩
/-! what Lay keeps -/
theorem cntL_cons (b : Bool) (ks : List Bool) : cntL (b :: ks) = (if b = true then 1 else 0) + cntL ks := by
  unfold cntL
  cases b
  · simp
  · simp [Nat.add_comm]
theorem cntL_set : ∀ (ks : List Bool) (p : Nat), p < ks.length → ks.getD p false = false → cntL (ks.set p true) = cntL ks + 1
  | [], p, h, _ => absurd h (by simp)
  | b :: ks, 0, _, h => by
    have h2 : b = false := by simpa using h
    subst h2
    rw [List.set_cons_zero, cntL_cons, cntL_cons]
    simp
    omega
  | b :: ks, p + 1, h, h2 => by
    rw [List.set_cons_succ, cntL_cons, cntL_cons, cntL_set ks p (by simpa using h) (by simpa using h2)]
    omega
theorem markL_cnt (ks : List Bool) (l : List Nat) (hl : ∀ i, i < l.length → l.getD i 0 < ks.length) (hc : clash ks l = false) : ∀ i, i ≤ l.length → cntL (markL ks (l.take i)) = cntL ks + i
  | 0, _ => by simp [markL]
  | i + 1, h => by
    have h1 : (markL ks (l.take i)).getD (l.getD i 0) false = false := by
      have h2 := List.any_eq_false.1 hc i (List.mem_range.2 (by omega))
      simpa using h2
    rw [markL_snoc ks l i (by omega), cntL_set _ _ (by rw [markL_length]; exact hl i (by omega)) h1, markL_cnt ks l hl hc i (by omega)]
    omega
theorem spotsIn_lt {x y n : Nat} (hn : x * y = n) (spots : List S51) (h : outB x y spots = false) (i : Nat) (hi : i < (spotsIn x y spots).length) : (spotsIn x y spots).getD i 0 < n := by
  rw [spotsIn_length] at hi
  rw [spotsIn_getD _ _ _ _ hi]
  refine plc_lt hn _ ?_
  have h1 := List.any_eq_false.1 h (spots.getD i z51) (by
    rw [List.getD_eq_getElem?_getD, List.getElem?_eq_getElem hi]
    exact List.getElem_mem _)
  simpa using h1
theorem lay_cnt {x y n cnt : Nat} (hn : x * y = n) (ps : List S45) (ks : List Bool) (hk : ks.length = n) (hc : cnt = cntL ks) (spots : List S51) (cols : List S45) : (layL x y cnt ps ks spots cols).2.1 = cntL (layL x y cnt ps ks spots cols).2.2.2 := by
  unfold layL
  by_cases h1 : spots.length ≠ cols.length ∨ outB x y spots = true
  · rw [if_pos h1]; exact hc
  · rw [if_neg h1]
    by_cases h2 : clash ks (spotsIn x y spots) = true
    · rw [if_pos h2]; exact hc
    · rw [if_neg h2]
      have h3 : outB x y spots = false := by
        cases h : outB x y spots with
        | false => rfl
        | true => exact absurd (.inr h) h1
      have h4 := markL_cnt ks (spotsIn x y spots) (fun i hi => by rw [hk]; exact spotsIn_lt hn spots h3 i hi) (by simpa using h2) _ (Nat.le_refl _)
      rw [List.take_length, spotsIn_length] at h4
      show cnt + spots.length = _
      rw [h4, hc]
theorem blank_put (ks : List Bool) (ps : List S45) (l : List Nat) (cs : List S45) (hl : ∀ i, i < l.length → l.getD i 0 < ks.length) (hc : l.length = cs.length) (h : Blank ps ks) : ∀ i, i ≤ l.length → Blank (putL ps (l.take i) (cs.take i)) (markL ks (l.take i))
  | 0, _ => by simpa [putL, markL] using h
  | i + 1, hi => by
    have ih := blank_put ks ps l cs hl hc h i (by omega)
    rw [markL_snoc ks l i (by omega), putL_snoc ps l cs i (by omega) (by omega)]
    intro j hj
    rw [getD_set_b] at hj
    by_cases e : l.getD i 0 = j
    · rw [if_pos ⟨e, by rw [markL_length]; exact hl i (by omega)⟩] at hj
      cases hj
    · rw [if_neg (fun h => e h.1)] at hj
      rw [List.getD_eq_getElem?_getD, List.getElem?_set_ne e, ← List.getD_eq_getElem?_getD]
      exact ih j hj
theorem lay_blank {x y n cnt : Nat} (hn : x * y = n) (ps : List S45) (ks : List Bool) (hk : ks.length = n) (h : Blank ps ks) (spots : List S51) (cols : List S45) : Blank (layL x y cnt ps ks spots cols).2.2.1 (layL x y cnt ps ks spots cols).2.2.2 := by
  unfold layL
  by_cases h1 : spots.length ≠ cols.length ∨ outB x y spots = true
  · rw [if_pos h1]; exact h
  · rw [if_neg h1]
    by_cases h2 : clash ks (spotsIn x y spots) = true
    · rw [if_pos h2]; exact h
    · rw [if_neg h2]
      have h3 : outB x y spots = false := by
        cases h : outB x y spots with
        | false => rfl
        | true => exact absurd (.inr h) h1
      have h5 : spots.length = cols.length := by
        by_cases e : spots.length = cols.length
        · exact e
        · exact absurd (.inl e) h1
      have h4 := blank_put ks ps (spotsIn x y spots) cols (fun i hi => by rw [hk]; exact spotsIn_lt hn spots h3 i hi) (by rw [spotsIn_length]; exact h5) h _ (Nat.le_refl _)
      rw [List.take_length, spotsIn_length, h5, List.take_length] at h4
      exact h4
theorem blank_new (n : Nat) : Blank (List.replicate n z45) (List.replicate n false) := by
  intro i _
  rw [List.getD_eq_getElem?_getD, List.getElem?_replicate]
  split <;> rfl
theorem cnt_new (n : Nat) : cntL (List.replicate n false) = 0 := by
  unfold cntL
  simp
/-! both Lays, of any line -/
theorem heap51 : Kd.Heap k51 := Kd.heap_iso _ (Kd.heap_pair (Kd.heap_int _) (Kd.heap_int _))
theorem heap45 : Kd.Heap k45 := Kd.heap_iso _ (Kd.heap_pair (Kd.heap_int _) (Kd.heap_pair (Kd.heap_int _) (Kd.heap_pair (Kd.heap_int _) (Kd.heap_int _))))
/-- a line that came in, in the world it came in -/
structure Came (w0 : World) (A1 A2 : Option Addr) (c1 : Nat) (n m : Nat) (spots : List S51) (cols : List S45) : Prop where
  ln : spots.length = n
  lm : cols.length = m
  sm : n ≤ 3000
  cp : n ≤ c1
  sp : Kd.C k51 w0 A1 n spots
  co : Kd.C k45 w0 A2 m cols
theorem lay_any {w0 W : World} {c : Cv} {cnt : Nat} {ps : List S45} {ks : List Bool} {A1 A2 : Option Addr} {c1 n m : Nat} {spots : List S51} {cols : List S45} (hl : Came w0 A1 A2 c1 n m spots cols) (h : IsCv W w0.heap.size c cnt ps ks) (hb : Below w0.heap.size w0 W) (hc : cnt = cntL ks) (pass : Int) (c2 : Nat) :
    Calls Try.prog 12 #[.pointer (some ⟨c.g, 0, none⟩), .agg #[.int .i64 pass, .slice A1 n c1, .slice A2 m c2]] W fun e w' => LayP W w0.heap.size c (layL c.x c.y cnt ps ks spots cols) e w' := by
  have hcnt : cnt ≤ 1000000 := by have := cntL_le ks; have := h.lk; have := h.sz.2.2.2.2; omega
  have hS : ∀ k, c.S k → w0.heap.size ≤ k := by
    rintro k (rfl | rfl | rfl)
    · exact h.ge
    · exact h.gpge
    · exact h.gkge
  by_cases e : n = m
  · subst e
    exact lay_walk h hb.size pass A1 A2 c1 c2 spots cols hl.ln hl.lm (by have := hl.sm; omega) hcnt (Kd.C_kept_came heap51 hl.sp hb hS) (Kd.C_kept_came heap45 hl.co hb hS)
  · exact lay_len h hb.size pass A1 A2 c1 c2 spots cols hl.ln hl.lm e
theorem rlay_any {w0 W : World} {c : Cv} (cnt : Nat) {ps : List S45} {ks : List Bool} {A1 A2 : Option Addr} {c1 n m : Nat} {spots : List S51} {cols : List S45} (hl : Came w0 A1 A2 c1 n m spots cols) (h : IsRc W w0.heap.size c ps ks) (hb : Below w0.heap.size w0 W) (pass : Int) (c2 : Nat) :
    Calls Try.prog 13 #[.pointer (some ⟨c.g, 0, none⟩), .agg #[.int .i64 pass, .slice A1 n c1, .slice A2 m c2]] W fun e w' => RLayP W w0.heap.size c (layL c.x c.y cnt ps ks spots cols) e w' := by
  have hS : ∀ k, c.S k → w0.heap.size ≤ k := by
    rintro k (rfl | rfl | rfl)
    · exact h.ge
    · exact h.gpge
    · exact h.gkge
  by_cases e : n = m
  · subst e
    exact rlay_walk cnt h hb.size pass A1 A2 c1 c2 spots cols hl.ln hl.lm (by have := hl.sm; omega) hl.cp (Kd.C_kept_came heap51 hl.sp hb hS) (Kd.C_kept_came heap45 hl.co hb hS)
  · exact rlay_len cnt h hb.size pass A1 A2 c1 c2 spots cols hl.ln hl.lm e
/-- both canvases, since a world, and the line's box -/
structure Two (w0 W : World) (bx : Nat) (cells : Array Value) (c d : Cv) (cnt : Nat) (ps : List S45) (ks : List Bool) (qs : List S45) (ls : List Bool) : Prop where
  cv : IsCv W w0.heap.size c cnt ps ks
  rc : IsRc W w0.heap.size d qs ls
  ap : ∀ k, c.S k → ¬ d.S k
  bl : Below w0.heap.size w0 W
  box : W.heap[bx]? = some (.cells cells 35 (0, 0))
  bf : ¬ c.S bx ∧ ¬ d.S bx
section
variable {w0 W W1 : World} {bx : Nat} {cells : Array Value} {c d : Cv} {cnt : Nat} {ps qs : List S45} {ks ls : List Bool}
theorem Two.ext (h : Two w0 W bx cells c d cnt ps ks qs ls) (hb : Below W.heap.size W W1) : Two w0 W1 bx cells c d cnt ps ks qs ls := ⟨h.cv.ext hb, h.rc.ext hb, h.ap, below_then h.bl h.bl.size hb, blk_below h.box hb, h.bf⟩
theorem Two.drewN (h : Two w0 W bx cells c d cnt ps ks qs ls) (m : Nat) : Two w0 (W.drewN m) bx cells c d cnt ps ks qs ls := h.ext (pw_below_drewN (Below.refl _ _) m)
theorem Two.drew (h : Two w0 W bx cells c d cnt ps ks qs ls) : Two w0 W.drew bx cells c d cnt ps ks qs ls := h.ext (below_drew (Below.refl _ _))
theorem Two.reads {a b e : Value} (h : Two w0 W bx #[a, b, e] c d cnt ps ks qs ls) : W.cell? ⟨bx, 0, none⟩ = some a ∧ W.cell? ⟨bx, 1, none⟩ = some b ∧ W.cell? ⟨bx, 2, none⟩ = some e := ⟨blk_cell h.box 0, blk_cell h.box 1, blk_cell h.box 2⟩
theorem Two.lay {A1 A2 : Option Addr} {c1 n m : Nat} {spots : List S51} {cols : List S45} (h : Two w0 W bx cells c d cnt ps ks qs ls) (hl : Came w0 A1 A2 c1 n m spots cols) (hc : cnt = cntL ks) (pass : Int) (c2 : Nat) {P : Int × Nat × List S45 × List Bool} (hP : layL c.x c.y cnt ps ks spots cols = P) :
    Calls Try.prog 12 #[.pointer (some ⟨c.g, 0, none⟩), .agg #[.int .i64 pass, .slice A1 n c1, .slice A2 m c2]] W fun e w' => e = .returned (.int .i64 P.1) ∧ Two w0 w' bx cells c d P.2.1 P.2.2.1 P.2.2.2 qs ls := by
  refine (lay_any hl h.cv h.bl hc pass c2).mono ?_
  rw [hP]
  rintro e w' ⟨he, h1, h2, h3⟩
  exact ⟨he, h1, h.rc.kept h2 (fun k hd hc => h.ap k hc hd), h.ap, h.bl.trans h3, blk_kept h.box h2 h.bf.1, h.bf⟩
theorem Two.rlay {A1 A2 : Option Addr} {c1 n m : Nat} {spots : List S51} {cols : List S45} (h : Two w0 W bx cells c d cnt ps ks qs ls) (hl : Came w0 A1 A2 c1 n m spots cols) (k : Nat) (pass : Int) (c2 : Nat) (hx : d.x = c.x) (hy : d.y = c.y) {P : Int × Nat × List S45 × List Bool} (hP : layL c.x c.y k qs ls spots cols = P) :
    Calls Try.prog 13 #[.pointer (some ⟨d.g, 0, none⟩), .agg #[.int .i64 pass, .slice A1 n c1, .slice A2 m c2]] W fun e w' => e = .returned (.int .i64 P.1) ∧ Two w0 w' bx cells c d cnt ps ks P.2.2.1 P.2.2.2 := by
  refine (rlay_any k hl h.rc h.bl pass c2).mono ?_
  rw [hx, hy, hP]
  rintro e w' ⟨he, h1, h2, h3⟩
  exact ⟨he, h.cv.kept h2 h.ap, h1, h.ap, h.bl.trans h3, blk_kept h.box h2 h.bf.2, h.bf⟩
end
/-- both canvases, alike, since a world -/
structure Duo (w0 W : World) (c d : Cv) (ps : List S45) (ks : List Bool) : Prop where
  bo : Bo W w0.heap.size c d (cntL ks) ps ks
  ap : ∀ k, c.S k → ¬ d.S k
  bl : Below w0.heap.size w0 W
section
variable {w0 W W1 : World} {bx : Nat} {cells : Array Value} {c d : Cv} {cnt : Nat} {ps qs : List S45} {ks ls : List Bool}
theorem Duo.ext (h : Duo w0 W c d ps ks) (hb : Below W.heap.size W W1) : Duo w0 W1 c d ps ks := ⟨h.bo.ext hb, h.ap, below_then h.bl h.bl.size hb⟩
theorem Duo.two (h : Duo w0 W c d ps ks) (cells : Array Value) : Two w0 (W.alloc (.cells cells 35)) W.heap.size cells c d (cntL ks) ps ks ps ks := by
  have hc := h.bo.cv.lt
  have hd := h.bo.rc.lt
  refine ⟨h.bo.cv.alloc _, h.bo.rc.alloc _, h.ap, h.bl.alloc h.bl.size _, heap_alloc_new W _, ?_, ?_⟩
  · rintro (e | e | e) <;> omega
  · rintro (e | e | e) <;> omega
theorem Two.duo {P : Int × Nat × List S45 × List Bool} {spots : List S51} {cols : List S45} (h : Two w0 W bx cells c d P.2.1 P.2.2.1 P.2.2.2 P.2.2.1 P.2.2.2) (hx : d.x = c.x) (hy : d.y = c.y) (hk : ks.length = c.n) (hb : Blank ps ks) (hP : layL c.x c.y (cntL ks) ps ks spots cols = P) : Duo w0 W c d P.2.2.1 P.2.2.2 := by
  have h1 := lay_cnt (x := c.x) (y := c.y) (n := c.n) rfl ps ks hk rfl spots cols
  have h2 := lay_blank (x := c.x) (y := c.y) (n := c.n) (cnt := cntL ks) rfl ps ks hk hb spots cols
  rw [hP] at h1 h2
  exact ⟨⟨h1 ▸ h.cv, h.rc, hx, hy, rfl, h2⟩, h.ap, h.bl⟩
theorem duo_new (W W1 : World) (x y : Nat) (c d : Cv) (h : IsCv W w0.heap.size c 0 (List.replicate c.n z45) (List.replicate c.n false)) (hcx : c.x = x) (hcy : c.y = y) (hw : Below w0.heap.size w0 W) (h2 : IsRc W1 W.heap.size d (List.replicate d.n z45) (List.replicate d.n false)) (hdx : d.x = x) (hdy : d.y = y) (hb : Below W.heap.size W W1) : Duo w0 W1 c d (List.replicate c.n z45) (List.replicate c.n false) := by
  have e : d.n = c.n := by unfold Cv.n; rw [hcx, hcy, hdx, hdy]
  rw [e] at h2
  have hc := h.lt
  refine ⟨⟨?_, h2.low hw.size, by rw [hcx, hdx], by rw [hcy, hdy], rfl, blank_new _⟩, ?_, below_then hw hw.size hb⟩
  · rw [cnt_new]
    exact h.ext hb
  · have g1 := h2.ge
    have g2 := h2.gpge
    have g3 := h2.gkge
    rintro k (e1 | e1 | e1) (e2 | e2 | e2) <;> omega
end
end Go.Proofs.Ytmeafgoifekffaa.Lib
