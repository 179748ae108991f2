/- chunk: what the writes to the reader come to. -/
import Derived.Test.YtapaodagnpaekaaV7
namespace Go.Proofs.Ytapaodagnpaekaa.Lib
open Go.RowKit Go.Proofs.YtapaodagnpaekaaW.PrintWords Go.Proofs.YtapaodagnpaekaaW.PrintLast Go.Proofs.YtapaodagnpaekaaW.PrintMore
set_option linter.unusedVariables false
set_option linter.unusedSimpArgs false
section
variable {w W W1 : World} {n₀ g : Nat} {hv0 hv hv' ov : Value} {r r' : RS} {pcs : List Pc} {ps : List PS}
theorem PI.drew (h : PI w W n₀ g hv0 hv ov r pcs ps) : PI w W.drew n₀ g hv0 hv ov r pcs ps := h.ext (below_drew (Below.refl _ _))
theorem PI.drewN (h : PI w W n₀ g hv0 hv ov r pcs ps) (m : Nat) : PI w (W.drewN m) n₀ g hv0 hv ov r pcs ps := h.ext (pw_below_drewN (Below.refl _ _) m)
theorem PI.set0 (h : PI w W n₀ g hv0 hv ov r pcs ps) (x : Int) (hx : 0 ≤ x ∧ x ≤ 4) (hx2 : x ≠ 0 → r.held.length ≤ 4) : PI w (W.setCell ⟨g, 0, none⟩ (.int .i64 x)) n₀ g hv0 hv ov { r with st := x } pcs ps :=
  h.setg 0 _ rfl h.rd.row (.inr rfl) ⟨hx, h.ok.hb, ⟨h.ok.hl.1, hx2⟩, h.ok.sz, h.ok.lf, h.ok.sm⟩
theorem PI.set1 (h : PI w W n₀ g hv0 hv ov r pcs ps) : PI w (W.setCell ⟨g, 1, none⟩ (.slice none 0 0)) n₀ g hv0 (.slice none 0 0) ov { r with held := [] } pcs ps :=
  h.setg 1 _ rfl (Kd.R_nil _ _ _ _ _) (.inl rfl) ⟨h.ok.st, fun x hx => by simp at hx, ⟨by simp, by simp⟩, h.ok.sz, h.ok.lf, h.ok.sm⟩
theorem PI.set2 (h : PI w W n₀ g hv0 hv ov r pcs ps) (s : ByteArray) : PI w (W.setCell ⟨g, 2, none⟩ (.string s)) n₀ g hv0 hv ov { r with kind := s } pcs ps :=
  h.setg 2 _ rfl h.rd.row (.inr rfl) ⟨h.ok.st, h.ok.hb, h.ok.hl, h.ok.sz, h.ok.lf, h.ok.sm⟩
theorem PI.set3 (h : PI w W n₀ g hv0 hv ov r pcs ps) (x : Int) (hx : 0 ≤ x ∧ x ≤ 4294967295) : PI w (W.setCell ⟨g, 3, none⟩ (.int .i64 x)) n₀ g hv0 hv ov { r with size := x } pcs ps :=
  h.setg 3 _ rfl h.rd.row (.inr rfl) ⟨h.ok.st, h.ok.hb, h.ok.hl, hx, h.ok.lf, h.ok.sm⟩
theorem PI.set4 (h : PI w W n₀ g hv0 hv ov r pcs ps) (x : Int) (hx : 0 ≤ x ∧ x ≤ 4294967295) : PI w (W.setCell ⟨g, 4, none⟩ (.int .i64 x)) n₀ g hv0 hv ov { r with left := x } pcs ps :=
  h.setg 4 _ rfl h.rd.row (.inr rfl) ⟨h.ok.st, h.ok.hb, h.ok.hl, h.ok.sz, hx, h.ok.sm⟩
theorem PI.set5 (h : PI w W n₀ g hv0 hv ov r pcs ps) (x : Int) (hx : 0 ≤ x ∧ x < 4294967296) : PI w (W.setCell ⟨g, 5, none⟩ (.int .u32 x)) n₀ g hv0 hv ov { r with sum := x } pcs ps :=
  h.setg 5 _ rfl h.rd.row (.inr rfl) ⟨h.ok.st, h.ok.hb, h.ok.hl, h.ok.sz, h.ok.lf, hx⟩
theorem PI.set6 (h : PI w W n₀ g hv0 hv ov r pcs ps) (x : Int) : PI w (W.setCell ⟨g, 6, none⟩ (.int .i64 x)) n₀ g hv0 hv ov { r with e := x } pcs ps :=
  h.setg 6 _ rfl h.rd.row (.inr rfl) ⟨h.ok.st, h.ok.hb, h.ok.hl, h.ok.sz, h.ok.lf, h.ok.sm⟩
end
/-- what Push tells -/
def PushP (w : World) (n₀ g : Nat) (hv0 : Value) (R : RS) (psF : List PS) (e : Ending) (w' : World) : Prop :=
  ∃ hv ov pcs, e = .returned (.tuple #[ov, .int .i64 R.e]) ∧ PI w w' n₀ g hv0 hv ov R pcs psF
/-- at the head of a round -/
def AtR (w W : World) (n₀ g : Nat) (hv0 : Value) (k kq : Nat) (R : RS) (psF : List PS) (b : List Int) (A : Option Addr) (m c : Nat) : Prop :=
  ∃ hv ov r pcs ps, runM kq r b ps = some (R, psF) ∧ pcs.length + kq ≤ k ∧ PI w W n₀ g hv0 hv ov r pcs ps ∧ Nil3 r.st pcs ∧ m ≤ c ∧ m ≤ 1000000 ∧ b.length = m ∧ (∀ W', Kept w W' (RdS g hv0) → Kd.C (Kd.int .u8) W' A m b) ∧ Bytes b
theorem run_stop {r r' R : RS} {b b' : List Int} {ps ps' psF : List PS} {k1 : Nat} (h : stepM r b ps = (false, r', b', ps')) (hq : runM (k1 + 1) r b ps = some (R, psF)) : R = r' ∧ psF = ps' := by
  unfold runM at hq
  rw [h] at hq
  simp at hq
  exact ⟨hq.1.symm, hq.2.symm⟩
theorem run_go {r r' R : RS} {b b' : List Int} {ps ps' psF : List PS} {k1 : Nat} (h : stepM r b ps = (true, r', b', ps')) (hq : runM (k1 + 1) r b ps = some (R, psF)) : runM k1 r' b' ps' = some (R, psF) := by
  unfold runM at hq
  rw [h] at hq
  simpa using hq
section
variable {r : RS} {b : List Int} {ps : List PS}
theorem step_0h (h0 : r.st = 0) (h8 : r.held.length = 8) : stepM r b ps = (true, { r with held := [], st := 1 }, b, ps) := by
  unfold stepM
  rw [if_pos h0, if_pos h8]
theorem step_0e (h0 : r.st = 0) (h8 : r.held.length ≠ 8) (hb : b.length = 0) : stepM r b ps = (false, r, b, ps) := by
  unfold stepM
  rw [if_pos h0, if_neg h8, if_pos hb]
theorem step_0x (h0 : r.st = 0) (h8 : r.held.length ≠ 8) (hb : b.length ≠ 0) (hx : b.getD 0 0 ≠ firstL.getD r.held.length 0) : stepM r b ps = (false, { r with e := 3 }, b, ps) := by
  unfold stepM
  rw [if_pos h0, if_neg h8, if_neg hb, if_pos hx]
theorem step_0a (h0 : r.st = 0) (h8 : r.held.length ≠ 8) (hb : b.length ≠ 0) (hx : b.getD 0 0 = firstL.getD r.held.length 0) : stepM r b ps = (true, { r with held := r.held ++ [b.getD 0 0] }, b.drop 1, ps) := by
  unfold stepM
  rw [if_pos h0, if_neg h8, if_neg hb, if_neg (fun h => h hx)]
end
theorem at_held8 {w W : World} {n₀ g : Nat} {hv0 hv ov : Value} {r R : RS} {pcs : List Pc} {ps psF : List PS} {k k1 : Nat} {b : List Int} {A : Option Addr} {m c : Nat} (hq : runM (k1 + 1) r b ps = some (R, psF)) (hkk : pcs.length + (k1 + 1) ≤ k) (hI : PI w W n₀ g hv0 hv ov r pcs ps) (hn : Nil3 r.st pcs) (hmc : m ≤ c) (hms : m ≤ 1000000) (hbl : b.length = m) (hCb : ∀ W', Kept w W' (RdS g hv0) → Kd.C (Kd.int .u8) W' A m b) (hbb : Bytes b) (h0 : r.st = 0) (h8 : r.held.length = 8) :
    AtR w ((W.setCell ⟨g, 1, none⟩ (.slice none 0 0)).setCell ⟨g, 0, none⟩ (.int .i64 1)).drew n₀ g hv0 k k1 R psF b A m c :=
  ⟨_, _, _, _, _, run_go (step_0h h0 h8) hq, by omega, (hI.set1.set0 1 (by omega) (by simp)).drew, fun p hp => ⟨fun _ => (hn p hp).1 (by omega), fun h => absurd h (show (1 : Int) ≠ 3 by decide)⟩, hmc, hms, hbl, hCb, hbb⟩
theorem first_at (hl : Nat) (h : hl < 8) (hp : hl < (⟨#[137, 80, 78, 71, 13, 10, 26, 10]⟩ : ByteArray).size) : (((⟨#[137, 80, 78, 71, 13, 10, 26, 10]⟩ : ByteArray)[hl]'hp).toNat : Int) = firstL.getD hl 0 := by
  rcases (show hl = 0 ∨ hl = 1 ∨ hl = 2 ∨ hl = 3 ∨ hl = 4 ∨ hl = 5 ∨ hl = 6 ∨ hl = 7 by omega) with rfl | rfl | rfl | rfl | rfl | rfl | rfl | rfl <;> rfl
section
variable {w W Wc w6 : World} {n₀ g : Nat} {hv0 hv ov v6 : Value} {r : RS} {pcs : List Pc} {ps : List PS} {b : List Int} {ad : Addr} {m : Nat}
/-- what region 15 reads -/
theorem pi_reads (h : PI w W n₀ g hv0 hv ov r pcs ps) (hCb : ∀ W', Kept w W' (RdS g hv0) → Kd.C (Kd.int .u8) W' (some ad) m b) (hbl : b.length = m) (hm : 0 < m) :
    W.cell? ⟨w.heap.size, 0, none⟩ = some (.pointer (some ⟨g, 0, none⟩)) ∧ W.cell? ⟨g, 1, none⟩ = some hv ∧ W.cell? ad = some (.int .u8 (rd b 0)) := by
  refine ⟨blk_cell h.x2 0, blk_cell h.rd.blk 1, ?_⟩
  have hC := hCb W h.kp
  rw [← hbl] at hC
  obtain ⟨ad', e, hx⟩ := Kd.at_int hC 0 (by omega) (by omega)
  injection e with e
  subst e
  simpa only [Int.toNat_zero, Addr.add_zero'] using hx
/-- after the append, ahead of the store -/
theorem PI.grown (h : PI w Wc n₀ g hv0 hv ov r pcs ps) (hg6 : Wc.grownBy w6 hv.ownBlock) : w6.heap[g]? = some (.cells #[.int .i64 r.st, hv, .string r.kind, .int .i64 r.size, .int .i64 r.left, .int .u32 r.sum, .int .i64 r.e] 59 (0, 0)) ∧ w6.heap[w.heap.size]? = some (.cells #[.pointer (some ⟨g, 0, none⟩)] 24 (0, 0)) :=
  ⟨blk_grown h.rd.blk hg6 (Kd.R_ne h.rd.row h.rd.blk (by decide)), blk_grown h.x2 hg6 (Kd.R_ne h.rd.row h.x2 (by decide))⟩
theorem PI.keptg (h : PI w Wc n₀ g hv0 hv ov r pcs ps) (hg6 : Wc.grownBy w6 hv.ownBlock) : Kept w w6 (RdS g hv0) :=
  h.kp.then_ (kept_grown hg6 (S := RdS g hv) (fun k hk => .inr hk)) (by
    rintro k (rfl | e)
    · exact .inl (.inl rfl)
    · rcases h.hvb with e2 | e2 | ⟨b, e2, hb2⟩
      · rw [e2] at e; cases e
      · exact .inl (.inr (by rw [← e2]; exact e))
      · rw [e2] at e
        injection e with e
        exact .inr (by omega))
theorem pi_readsg (h : PI w Wc n₀ g hv0 hv ov r pcs ps) (hg6 : Wc.grownBy w6 hv.ownBlock) (hCb : ∀ W', Kept w W' (RdS g hv0) → Kd.C (Kd.int .u8) W' (some ad) m b) (hbl : b.length = m) (hm : 0 < m) :
    w6.cell? ⟨w.heap.size, 0, none⟩ = some (.pointer (some ⟨g, 0, none⟩)) ∧ w6.cell? ⟨g, 1, none⟩ = some hv ∧ w6.cell? ad = some (.int .u8 (rd b 0)) := by
  refine ⟨blk_cell (h.grown hg6).2 0, blk_cell (h.grown hg6).1 1, ?_⟩
  have hC := hCb w6 (h.keptg hg6)
  rw [← hbl] at hC
  obtain ⟨ad', e, hx⟩ := Kd.at_int hC 0 (by omega) (by omega)
  injection e with e
  subst e
  simpa only [Int.toNat_zero, Addr.add_zero'] using hx
/-- after the store -/
theorem PI.app (h : PI w Wc n₀ g hv0 hv ov r pcs ps) {x : List Int} (hR6 : Kd.R (Kd.int .u8) 5 w6 n₀ (fun _ => True) v6 (r.held ++ x)) (hb6 : Below n₀ Wc w6) (hg6 : Wc.grownBy w6 hv.ownBlock) (hat : v6.ownBlock = hv.ownBlock ∨ ∃ b, v6.ownBlock = some b ∧ Wc.heap.size ≤ b) (hbs : Bytes (r.held ++ x)) (hl : (r.held ++ x).length ≤ 8 ∧ (r.st ≠ 0 → (r.held ++ x).length ≤ 4)) :
    PI w (w6.setCell ⟨g, 1, none⟩ v6) n₀ g hv0 v6 ov { r with held := r.held ++ x } pcs ps := by
  have hx := (h.grown hg6).1
  refine h.hold (W1 := w6.setCell ⟨g, 1, none⟩ v6) ⟨?_, Kd.R_set hR6 hx (by decide) 1 _, h.rd.ge⟩ (kept_set (kept_grown hg6 (S := RdS g hv) (fun k hk => .inr hk)) (p := ⟨g, 1, none⟩) (.inl rfl) v6) (hb6.setCell (p := ⟨g, 1, none⟩) h.rd.ge v6) hat hbs hl
  have h1 := blk_set hx 1 v6
  simpa using h1
end
theorem at26 (ad : Addr) (m c : Nat) (hm : 0 < m) : ∀ W : World, (Instr.indexAt 26 (.slice (some ad) m c) (.int .i64 0)).run Try.prog W = .ok (.pointer (some ad)) W := by
  intro W
  obtain ⟨i5, hi5, hz5⟩ := Option.map_eq_some_iff.1 info5
  have hsz5 : i5.size = 1 := by simp only [Prod.mk.injEq] at hz5; exact hz5.2.1
  have hel : Try.prog.elem 26 = 5 := by simp [Program.elem, Try.underlying26]
  have h1 : (0 : Int) < (m : Int) := by omega
  rw [run_indexAt_slice W 26 ad m c .i64 0 (by rw [hel]; exact Try.underlying26), if_pos ⟨by decide, h1⟩, hel]
  simp [sizeOf, typeInfo, hi5, hsz5, Result.andThen, Addr.add_zero']
theorem at_0a {w W' : World} {n₀ g : Nat} {hv0 v ov : Value} {r R : RS} {pcs : List Pc} {ps psF : List PS} {k k1 : Nat} {b : List Int} {A A' : Option Addr} {m c : Nat} {x0 : Int} (hq : runM (k1 + 1) r b ps = some (R, psF)) (hkk : pcs.length + (k1 + 1) ≤ k) (hP : PI w W' n₀ g hv0 v ov { r with held := r.held ++ [x0] } pcs ps) (hx : b.getD 0 0 = x0) (hn : Nil3 r.st pcs) (hmc : m ≤ c) (hms : m ≤ 1000000) (hbl : b.length = m) (hCb : ∀ W', Kept w W' (RdS g hv0) → Kd.C (Kd.int .u8) W' A m b) (hbb : Bytes b) (h0 : r.st = 0) (h8 : r.held.length ≠ 8) (hm0 : m ≠ 0) (heq : b.getD 0 0 = firstL.getD r.held.length 0) (hA' : (if c = 1 then A else A.map (·.add (1 * 1))) = A') :
    AtR w W' n₀ g hv0 k k1 R psF (b.drop 1) A' (m - 1) (c - 1) := by
  have h1 := run_go (step_0a h0 h8 (by omega) heq) hq
  rw [hx] at h1
  refine ⟨_, _, _, _, _, h1, by omega, hP, hn, by omega, by omega, by rw [List.length_drop]; omega, fun W' hk => ?_, fun x hx => hbb x (List.mem_of_mem_drop hx)⟩
  have h2 := hCb W' hk
  rw [← hbl] at h2
  have h3 := Kd.C_drop h2 (m := 1) (c := c) (by omega) (by omega)
  rw [List.length_drop, show (Kd.int .u8).sz = 1 from rfl, hA', hbl] at h3
  exact h3
theorem bytes_snoc {l b : List Int} {x0 : Int} (hl : Bytes l) (hb : Bytes b) (hx : b.getD 0 0 = x0) (hm : b.length ≠ 0) : Bytes (l ++ [x0]) := by
  intro x h
  rcases List.mem_append.1 h with h | h
  · exact hl x h
  · rw [List.mem_singleton] at h
    rcases b with _ | ⟨y, t⟩
    · exact absurd rfl hm
    · have h2 : y = x0 := by simpa using hx
      rw [h, ← h2]
      exact hb y (List.mem_cons_self ..)
theorem pi_start {w : World} {n₀ g : Nat} {hv0 : Value} {r0 : RS} (h : IsRd w n₀ g hv0 r0) (hn : n₀ ≤ w.heap.size) (hok : RsOk r0) : PI w ((w.alloc (.cells #[.pointer (some ⟨g, 0, none⟩)] 24)).alloc (.cells #[.slice none 0 0] 28)) n₀ g hv0 hv0 (.slice none 0 0) r0 [] [] := by
  have hb : Below w.heap.size w ((w.alloc (.cells #[.pointer (some ⟨g, 0, none⟩)] 24)).alloc (.cells #[.slice none 0 0] 28)) := below_alloc (below_alloc (Below.refl _ _) _) _
  refine ⟨h.ext hb, blk_alloc (heap_alloc_new w _) _, new_at _ _ (by simp), Kd.R_nil _ _ _ _ _, ⟨rfl, fun j hj => absurd hj (by simp)⟩, Kept.of_below hb _, hb.mono hn, .inr (.inl rfl), hn, hok⟩
theorem at_start {w : World} {n₀ g : Nat} {hv0 : Value} {r0 R : RS} {psF : List PS} {k : Nat} {bs : List Int} {A : Option Addr} {m c : Nat} (h : IsRd w n₀ g hv0 r0) (hn : n₀ ≤ w.heap.size) (hok : RsOk r0) (hq : runM k r0 bs [] = some (R, psF)) (hmc : m ≤ c) (hms : m ≤ 1000000) (hbl : bs.length = m) (hCb : ∀ W', Kept w W' (RdS g hv0) → Kd.C (Kd.int .u8) W' A m bs) (hbb : Bytes bs) :
    AtR w ((w.alloc (.cells #[.pointer (some ⟨g, 0, none⟩)] 24)).alloc (.cells #[.slice none 0 0] 28)) n₀ g hv0 k k R psF bs A m c :=
  ⟨_, _, _, [], _, hq, by simp, pi_start h hn hok, fun p hp => by simp at hp, hmc, hms, hbl, hCb, hbb⟩
/-- hold between two steps -/
theorem pi_hold {w W : World} {n₀ g : Nat} {hv0 hv ov : Value} {r : RS} {pcs : List Pc} {ps : List PS} {b : List Int} {A : Option Addr} {m c hl kk : Nat} (h : PI w W n₀ g hv0 hv ov r pcs ps) (hhl : r.held.length = hl) (hst : r.st ≠ 0) (hmc : m ≤ c) (hms : m ≤ 1000000) (hbl : b.length = m) (hCb : ∀ W', Kept w W' (RdS g hv0) → Kd.C (Kd.int .u8) W' A m b) (hbb : Bytes b) (hkk : min (4 - hl) m = kk) :
    Calls Try.prog 21 #[.pointer (some ⟨g, 0, none⟩), .slice A m c, .int .i64 4] W fun e w' => ∃ hv' A', e = .returned (.tuple #[.slice A' (m - kk) (c - kk), .bool ((hl : Int) + (kk : Int) == 4)]) ∧ PI w w' n₀ g hv0 hv' ov { r with held := r.held ++ b.take kk } pcs ps ∧ (∀ W', Kept w W' (RdS g hv0) → Kd.C (Kd.int .u8) W' A' (m - kk) (b.drop kk)) := by
  have h4 := h.ok.hl.2 hst
  refine (hold_walk h.rd (Nat.le_trans h.n0 h.kp.1) 4 (by decide) h4 A m c b hbl hmc (hCb W h.kp) (by omega)).mono ?_
  rintro e w' ⟨hv', A', rfl, hI, hC, hk, hb, ho⟩
  rw [hhl, hkk] at hI hC ⊢
  have hlen : (r.held ++ b.take kk).length ≤ 4 := by rw [List.length_append, List.length_take]; omega
  refine ⟨hv', A', rfl, h.hold hI hk hb ho (fun x hx => ?_) ⟨by omega, fun _ => hlen⟩, fun W' hk' => hC W' (hCb W' hk')⟩
  rcases List.mem_append.1 hx with h1 | h1
  · exact h.ok.hb x h1
  · exact hbb x (List.mem_of_mem_take h1)
theorem step_h {r : RS} {b : List Int} {ps : List PS} {hl kk : Nat} (hhl : r.held.length = hl) (hkk : min (4 - hl) b.length = kk) (h0 : r.st ≠ 0) (h3 : r.st ≠ 3) (h4 : hl + kk ≠ 4) : stepM r b ps = (false, { r with held := r.held ++ b.take kk }, b.drop kk, ps) := by
  unfold stepM
  rw [hhl, hkk, if_neg h0, if_neg h3, if_pos h4]
theorem step_1l {r : RS} {b : List Int} {ps : List PS} {hl kk : Nat} (hhl : r.held.length = hl) (hkk : min (4 - hl) b.length = kk) (h1 : r.st = 1) (h4 : hl + kk = 4) (hx : 1048576 < beN (r.held ++ b.take kk)) : stepM r b ps = (false, { r with held := r.held ++ b.take kk, size := beN (r.held ++ b.take kk), e := 9 }, b.drop kk, ps) := by
  unfold stepM
  rw [hhl, hkk, if_neg (by omega), if_neg (by omega), if_neg (by omega), if_pos h1, if_pos hx]
theorem step_1 {r : RS} {b : List Int} {ps : List PS} {hl kk : Nat} (hhl : r.held.length = hl) (hkk : min (4 - hl) b.length = kk) (h1 : r.st = 1) (h4 : hl + kk = 4) (hx : ¬ 1048576 < beN (r.held ++ b.take kk)) : stepM r b ps = (true, { r with held := [], size := beN (r.held ++ b.take kk), st := 2 }, b.drop kk, ps) := by
  unfold stepM
  rw [hhl, hkk, if_neg (by omega), if_neg (by omega), if_neg (by omega), if_pos h1, if_neg hx]
theorem pi_two {w W : World} {n₀ g : Nat} {hv0 hv ov : Value} {r : RS} {pcs : List Pc} {ps : List PS} (h : PI w W n₀ g hv0 hv ov r pcs ps) : W.cell? ⟨w.heap.size, 0, none⟩ = some (.pointer (some ⟨g, 0, none⟩)) ∧ W.cell? ⟨g, 1, none⟩ = some hv := ⟨blk_cell h.x2 0, blk_cell h.rd.blk 1⟩
theorem pi_size (h0 : Nat) {l b : List Int} {hl kk m : Nat} (hhl : l.length = hl) (hbl : b.length = m) (hkk : min (4 - hl) m = kk) (h4 : hl + kk = 4) : (l ++ b.take kk).length = 4 := by
  rw [List.length_append, List.length_take, hhl, hbl]
  omega
end Go.Proofs.Ytapaodagnpaekaa.Lib
