/- chunk: the piece at hand, and a piece's field, between two steps of Push. -/
import Derived.Test.YtapaodagnpaekaaV6
namespace Go.Proofs.Ytapaodagnpaekaa.Lib
open Go.RowKit Go.Proofs.YtapaodagnpaekaaW.PrintWords Go.Proofs.YtapaodagnpaekaaW.PrintLast Go.Proofs.YtapaodagnpaekaaW.PrintMore
set_option linter.unusedVariables false
set_option linter.unusedSimpArgs false
/-- the last piece at a state: ended ahead of the data, without bytes at its head -/
def Nil3 (st : Int) (pcs : List Pc) : Prop := ∀ p, pcs.length = p + 1 → (st < 3 → (pcs.getD p zp).en = true) ∧ (st = 3 → (pcs.getD p zp).en = false → (pcs.getD p zp).A = none ∧ (pcs.getD p zp).n = 0 ∧ (pcs.getD p zp).c = 0)
theorem nowL_cases (kind : ByteArray) (size : Int) (pcs : List Pc) : (nowL kind size pcs = pcs ++ [⟨kind, size, none, 0, 0, false, false⟩] ∧ (pcs = [] ∨ (pcs.getD (pcs.length - 1) zp).en = true)) ∨ (nowL kind size pcs = pcs ∧ ∃ p, pcs.length = p + 1 ∧ (pcs.getD p zp).en = false) := by
  unfold nowL
  by_cases h : pcs = [] ∨ (pcs.getD (pcs.length - 1) zp).en = true
  · rw [if_pos h]
    exact .inl ⟨rfl, h⟩
  · rw [if_neg h]
    have h1 : pcs ≠ [] := fun e => h (.inl e)
    have h2 : pcs.length ≠ 0 := fun e => h1 (List.length_eq_zero_iff.1 e)
    refine .inr ⟨rfl, pcs.length - 1, by omega, ?_⟩
    cases he : (pcs.getD (pcs.length - 1) zp).en
    · rfl
    · exact absurd (.inr he) h
/-- the piece at hand is open -/
theorem nowL_last {kind : ByteArray} {size : Int} {pcs : List Pc} {p : Nat} (hl : (nowL kind size pcs).length = p + 1) : ((nowL kind size pcs).getD p zp).en = false := by
  rcases nowL_cases kind size pcs with ⟨e, _⟩ | ⟨e, q, hq, hq2⟩
  · rw [e] at hl ⊢
    rw [List.length_append, List.length_singleton] at hl
    have h3 : pcs.length = p := by omega
    subst h3
    simp
  · rw [e] at hl ⊢
    have h3 : q = p := by omega
    rw [← h3]
    exact hq2
theorem nowL_len (kind : ByteArray) (size : Int) (pcs : List Pc) : (nowL kind size pcs).length ≤ pcs.length + 1 := by
  rcases nowL_cases kind size pcs with ⟨e, _⟩ | ⟨e, _⟩ <;> rw [e]
  · rw [List.length_append, List.length_singleton]
    exact Nat.le_refl _
  · omega
/-- its bytes are none, where the last one's were none or it had ended -/
theorem nowL_nil {kind : ByteArray} {size : Int} {pcs : List Pc} (st : Int) (h : Nil3 st pcs) (hst : st ≤ 3) {p : Nat} (hl : (nowL kind size pcs).length = p + 1) : ((nowL kind size pcs).getD p zp).A = none ∧ ((nowL kind size pcs).getD p zp).n = 0 ∧ ((nowL kind size pcs).getD p zp).c = 0 := by
  rcases nowL_cases kind size pcs with ⟨e, _⟩ | ⟨e, q, hq, hq2⟩
  · rw [e] at hl ⊢
    rw [List.length_append, List.length_singleton] at hl
    have h3 : pcs.length = p := by omega
    subst h3
    simp
  · rw [e] at hl ⊢
    have h3 : q = p := by omega
    rw [← h3]
    by_cases h4 : st = 3
    · exact (h q hq).2 h4 hq2
    · have := (h q hq).1 (by omega)
      rw [hq2] at this
      cases this
theorem nowM_of {kind : ByteArray} {size : Int} {pcs : List Pc} {ps : List PS} (hl : pcs.length = ps.length) (hen : ∀ j, j < ps.length → (pcs.getD j zp).en = (ps.getD j zs).en) : (nowL kind size pcs = pcs ++ [⟨kind, size, none, 0, 0, false, false⟩] ∧ nowM kind size ps = ps ++ [⟨kind, size, [], false, false⟩]) ∨ (nowL kind size pcs = pcs ∧ nowM kind size ps = ps) := by
  unfold nowL nowM
  by_cases h0 : ps.length = 0
  · have h1 : pcs = [] := List.length_eq_zero_iff.1 (by omega)
    rw [if_pos (.inl h1), if_pos (.inl h0)]
    exact .inl ⟨rfl, rfl⟩
  · have h1 : pcs ≠ [] := fun e => h0 (by rw [← hl, e]; rfl)
    have h2 := hen (ps.length - 1) (by omega)
    rw [← hl] at h2
    by_cases h3 : (pcs.getD (pcs.length - 1) zp).en = true
    · rw [if_pos (.inr h3), if_pos (.inr (by rw [← hl, ← h2]; exact h3))]
      exact .inl ⟨rfl, rfl⟩
    · rw [if_neg (fun e => e.elim h1 h3), if_neg (fun e => e.elim h0 (fun e => h3 (by rw [h2, hl]; exact e)))]
      exact .inr ⟨rfl, rfl⟩
theorem Dat.now {W : World} {B : Nat} {hv : Value} {pcs : List Pc} {ps : List PS} (h : Dat W B hv pcs ps) (kind : ByteArray) (size : Int) : Dat W B hv (nowL kind size pcs) (nowM kind size ps) := by
  rcases nowM_of (kind := kind) (size := size) h.len (fun j hj => (h.at_ j hj).2.2.2.1) with ⟨e1, e2⟩ | ⟨e1, e2⟩
  · rw [e1, e2]
    refine ⟨by simp [h.len], fun j hj => ?_⟩
    rw [List.length_append, List.length_singleton] at hj
    by_cases h1 : j < ps.length
    · have h2 := h.at_ j h1
      have h3 : j < pcs.length := by rw [h.len]; exact h1
      simp only [List.getD_eq_getElem?_getD] at h2 ⊢
      rw [List.getElem?_append_left h3, List.getElem?_append_left h1]
      exact h2
    · have h2 : j = ps.length := by omega
      subst h2
      simp only [List.getD_eq_getElem?_getD]
      rw [List.getElem?_append_right (by rw [h.len]; exact Nat.le_refl _), List.getElem?_append_right (Nat.le_refl _), h.len]
      simp only [Nat.sub_self, List.getElem?_cons_zero, Option.getD_some, true_and]
      exact Kd.R_nil _ _ _ _ _
  · rw [e1, e2]
    exact h
section
variable {w W W1 : World} {n₀ g : Nat} {hv0 hv hv' ov : Value} {r r' : RS} {pcs : List Pc} {ps : List PS}
theorem now_any (hB : w.heap.size ≤ w.heap.size + 1 ∧ w.heap.size + 1 < W.heap.size ∧ w.heap.size ≤ W.heap.size) (h : PI w W n₀ g hv0 hv ov r pcs ps) (hs : pcs.length ≤ 1000000) :
    Calls Try.prog 20 #[.pointer (some ⟨w.heap.size + 1, 0, none⟩), .pointer (some ⟨w.heap.size, 0, none⟩)] W fun e w' => NowP W w.heap.size (w.heap.size + 1) ov (nowL r.kind r.size pcs) e w' := by
  rcases nowL_cases r.kind r.size pcs with ⟨e, e2⟩ | ⟨e, q, hq, hq2⟩
  · rw [e]
    by_cases h0 : pcs = []
    · exact now_nil hB h.x6 h.x2 h.rd.blk h.out hs (by rw [h0]; rfl)
    · have h1 : pcs.length ≠ 0 := fun e => h0 (List.length_eq_zero_iff.1 e)
      exact now_ended hB h.x6 h.x2 h.rd.blk h.out hs (p := pcs.length - 1) (by omega) (e2.resolve_left h0)
  · rw [e]
    exact now_open hB h.x6 h.x2 h.rd.blk h.out hs hq hq2
/-- now: what stands afterwards -/
def NowI (w : World) (n₀ g : Nat) (hv0 hv : Value) (r : RS) (pcs' : List Pc) (ps' : List PS) (e : Ending) (w' : World) : Prop :=
  ∃ go co p, e = .returned (.pointer (some ⟨go, p * 5, none⟩)) ∧ pcs'.length = p + 1 ∧ PI w w' n₀ g hv0 hv (.slice (some ⟨go, 0, none⟩) (p + 1) co) r pcs' ps'
theorem PI.now (h : PI w W n₀ g hv0 hv ov r pcs ps) (hs : pcs.length ≤ 1000000) :
    Calls Try.prog 20 #[.pointer (some ⟨w.heap.size + 1, 0, none⟩), .pointer (some ⟨w.heap.size, 0, none⟩)] W fun e w' => NowI w n₀ g hv0 hv r (nowL r.kind r.size pcs) (nowM r.kind r.size ps) e w' := by
  refine (now_any ⟨by omega, blk_lt h.x6, h.kp.1⟩ h hs).mono ?_
  rintro e w' ⟨go, co, p, rfl, hl, hx, hR, hk, hb⟩
  have hS : ∀ {b q : Nat} {cs : Array Value}, W.heap[b]? = some (.cells cs q (0, 0)) → q ≠ 28 → q ≠ 53 → ¬ (b = w.heap.size + 1 ∨ ov.ownBlock = some b) := by
    intro b q cs h1 h2 h3
    rintro (rfl | e)
    · rw [h.x6] at h1
      injection h1 with h1
      injection h1 with _ h4
      exact h2 h4.symm
    · obtain ⟨cs2, h5⟩ := Kd.R_typed h.out b e
      rw [h5] at h1
      injection h1 with h1
      injection h1 with _ h4
      exact h3 h4.symm
  refine ⟨go, co, p, rfl, hl, ⟨blk_kept h.rd.blk hk (hS h.rd.blk (by decide) (by decide)), R_keptT h.rd.row hk ?_, h.rd.ge⟩, blk_kept h.x2 hk (hS h.x2 (by decide) (by decide)), hx, hR, (h.dat.now r.kind r.size).move (fun k a b c => ?_), h.kp.then_ hk ?_, h.bl.trans (hb.mono h.n0), h.hvb, h.n0, h.ok⟩
  · rintro k (rfl | e)
    · exact ⟨_, _, h.x6, by decide⟩
    · obtain ⟨cs2, h5⟩ := Kd.R_typed h.out k e
      exact ⟨_, _, h5, by decide⟩
  · obtain ⟨cs, hc⟩ := c
    exact ⟨hk.2 k b (hS hc (by decide) (by decide)), a⟩
  · rintro k (rfl | e)
    · exact .inr (by omega)
    · exact .inr (Kd.R_base h.out k e)
/-- a field of the last piece is written -/
theorem PI.setp {go co p : Nat} (h : PI w W n₀ g hv0 hv (.slice (some ⟨go, 0, none⟩) (p + 1) co) r pcs ps) (hl : pcs.length = p + 1) (j : Nat) (hj : j < 5) (u : Value) (x' : Pc) (hx : x'.cells = ((pcs.getD p zp).cells.take j ++ [u] ++ (pcs.getD p zp).cells.drop (j + 1))) (y' : PS) (he : x'.kind = y'.kind ∧ x'.size = y'.size ∧ x'.bg = y'.bg ∧ x'.en = y'.en)
    (hR : Kd.R (Kd.int .u8) 5 (W.setCell ⟨go, p * 5 + j, none⟩ u) w.heap.size (fun k => some k ≠ hv.ownBlock) (.slice x'.A x'.n x'.c) y'.data) : PI w (W.setCell ⟨go, p * 5 + j, none⟩ u) n₀ g hv0 hv (.slice (some ⟨go, 0, none⟩) (p + 1) co) r (pcs.set p x') (ps.set p y') := by
  obtain ⟨cs2, hgo⟩ := Kd.R_typed h.out go rfl
  have hne : ∀ {b q : Nat} {cs : Array Value}, W.heap[b]? = some (.cells cs q (0, 0)) → q ≠ 53 → b ≠ go := fun h1 h2 => blk_ne h1 hgo h2
  have hgb : w.heap.size ≤ go := Kd.R_base h.out go rfl
  have hlp : ps.length = p + 1 := by rw [← h.dat.len]; exact hl
  refine ⟨⟨blk_far h.rd.blk (p := ⟨go, p * 5 + j, none⟩) (hne h.rd.blk (by decide)) u, Kd.R_set h.rd.row hgo (by decide) _ u, h.rd.ge⟩, blk_far h.x2 (p := ⟨go, p * 5 + j, none⟩) (hne h.x2 (by decide)) u, blk_far h.x6 (p := ⟨go, p * 5 + j, none⟩) (hne h.x6 (by decide)) u, pc_set h.out p (by omega) j hj u x' hx, ?_, h.kp.setCell (p := ⟨go, p * 5 + j, none⟩) (.inr hgb) u, h.bl.setCell (p := ⟨go, p * 5 + j, none⟩) (Nat.le_trans h.n0 hgb) u, h.hvb, h.n0, h.ok⟩
  have hd := h.dat.move (W1 := W.setCell ⟨go, p * 5 + j, none⟩ u) (hv' := hv) (fun k a b c => by
    obtain ⟨cs, hc⟩ := c
    exact ⟨Below.heap_setCell W ⟨go, p * 5 + j, none⟩ u k (hne hc (by decide)), a⟩)
  refine ⟨by simp [h.dat.len], fun i hi => ?_⟩
  rw [List.length_set] at hi
  have h2 := hd.at_ i hi
  simp only [List.getD_eq_getElem?_getD] at h2 ⊢
  by_cases hip : p = i
  · subst hip
    rw [List.getElem?_set_self (by omega), List.getElem?_set_self (by omega)]
    exact ⟨he.1, he.2.1, he.2.2.1, he.2.2.2, hR⟩
  · rw [List.getElem?_set_ne hip, List.getElem?_set_ne hip]
    exact h2
theorem setL_eq {f : PS → PS} {ps : List PS} {p : Nat} (hl : ps.length = p + 1) : setL f ps = ps.set p (f (ps.getD p zs)) := by
  unfold setL
  rw [hl]
  rfl
end
end Go.Proofs.Ytapaodagnpaekaa.Lib
