/- Filters as plain functions on lists: what the program comes to, element by element. -/
import Derived.Test.YtnnhbibbhcbkcaaF1
namespace Go.Proofs.Ytnnhbibbhcbkcaa.Lib
open Go.RowKit Go.Proofs.YtnnhbibbhcbkcaaW.PrintWords Go.Proofs.YtnnhbibbhcbkcaaW.PrintLast Go.Proofs.YtnnhbibbhcbkcaaW.PrintMore
theorem wf_u8 {x : Int} (h : (Lit.int .u8 x).wf = true) : 0 ≤ x ∧ x ≤ 255 := by
  simp [Lit.wf, IntKind.min, IntKind.max, IntKind.signed, IntKind.bits] at h; omega
theorem wf_i64 {x : Int} (h : (Lit.int .i64 x).wf = true) : -9223372036854775808 ≤ x ∧ x ≤ 9223372036854775807 := by
  simp [Lit.wf, IntKind.min, IntKind.max, IntKind.signed, IntKind.bits] at h; omega
theorem BytesB.of {l : List Int} (h : ∀ x ∈ l, (Lit.int .u8 x).wf = true) : BytesB l := fun x hx => wf_u8 (h x hx)
theorem toNats_inj : ∀ {a b : List Int}, BytesB a → BytesB b → (a.map fun n => UInt8.ofNat n.toNat) = (b.map fun n => UInt8.ofNat n.toNat) → a = b
  | [], [], _, _, _ => rfl
  | [], _ :: _, _, _, h => by simp at h
  | _ :: _, [], _, _, h => by simp at h
  | x :: a, y :: b, ha, hb, h => by
    have hx := ha x (by simp)
    have hy := hb y (by simp)
    simp only [List.map_cons, List.cons.injEq] at h
    have e : x.toNat = y.toNat := by
      have := congrArg UInt8.toNat h.1
      simp only [UInt8.toNat_ofNat'] at this
      omega
    rw [toNats_inj (fun v hv => ha v (by simp [hv])) (fun v hv => hb v (by simp [hv])) h.2, show x = y by omega]
theorem same_eq {a b : List Int} (ha : BytesB a) (hb : BytesB b) : halftoneref01_Same.f a b = some (decide (a = b)) := by
  unfold halftoneref01_Same.f
  congr 1
  rw [Bool.eq_iff_iff, beq_iff_eq, decide_eq_true_iff]
  rw [ByteArray.toList_eq, ByteArray.toList_eq]
  exact ⟨fun h => toNats_inj ha hb h, fun h => by rw [h]⟩
theorem rounds_of {α : Type} {g : Nat → Option α} {r : α} (hg : ∀ k, LeO (g k) (g (k + 1))) (h : ∃ k, g k = some r) : Ev g r := h.elim fun _ hk => Ev.of hg hk
theorem rd_nat {l : List Int} {i : Nat} (h : i < l.length) : rd l (i : Int) = l[i] := by unfold rd; simp [h]
theorem wrap_nat {i : Nat} (h : i < 9223372036854775807) : wrap64 ((i : Int) + 1) = ((i + 1 : Nat) : Int) := by unfold wrap64; omega

/-! the list, element by element -/
def bld (k s : Int) (row above : List Int) (undo : Bool) : Nat → Nat → List Int → List Int
  | 0, _, out => out
  | d + 1, i, out => bld k s row above undo d (i + 1) (out ++ [oneW k s row above out undo i])
theorem rd_take {l : List Int} {i : Int} {j : Nat} (h0 : 0 ≤ i) (h : i < j) : rd (l.take j) i = rd l i := by
  unfold rd
  rw [List.getD_eq_getElem?_getD, List.getD_eq_getElem?_getD, List.getElem?_take, if_pos (by omega)]
theorem back_take (l : List Int) (j : Nat) {s : Int} (hs : 1 ≤ s) : back (l.take j) j s = back l j s := by
  unfold back
  by_cases h : s ≤ (j : Int)
  · rw [if_pos h, if_pos h, rd_take (by omega) (by omega)]
  · rw [if_neg h, if_neg h]
theorem oneW_take (k : Int) {s : Int} (hs : 1 ≤ s) (row above X : List Int) (undo : Bool) (j : Nat) : oneW k s row above (X.take j) undo j = oneW k s row above X undo j := by
  unfold oneW; rw [back_take X j hs]
theorem walk_bld (k : Int) {s : Int} (hs : 1 ≤ s) (row above : List Int) (undo : Bool) (d : Nat) : ∀ (i : Nat) (X : List Int), X.length = i + d → walkL k s row above undo d i X = bld k s row above undo d i (X.take i) := by
  induction d with
  | zero => intro i X h; simp only [walkL, bld]; rw [List.take_of_length_le (by omega)]
  | succ d ih =>
    intro i X h
    simp only [walkL, bld]
    rw [Int.toNat_natCast, show ((i : Int) + 1) = ((i + 1 : Nat) : Int) from rfl, ih (i + 1) _ (by rw [List.length_set]; omega)]
    congr 1
    have hl : i < (X.set i (oneW k s row above X undo i)).length := by rw [List.length_set]; omega
    rw [List.take_succ_eq_append_getElem hl, List.getElem_set_self, List.take_set_of_le (Nat.le_refl _), oneW_take k hs]
theorem bld_len (k s : Int) (row above : List Int) (undo : Bool) (d : Nat) : ∀ (i : Nat) (out : List Int), (bld k s row above undo d i out).length = out.length + d := by
  induction d with
  | zero => intro i out; rfl
  | succ d ih => intro i out; simp only [bld]; rw [ih, List.length_append, List.length_singleton]; omega
theorem bld_take (k s : Int) (row above : List Int) (undo : Bool) (d : Nat) : ∀ (i : Nat) (out : List Int), (bld k s row above undo d i out).take out.length = out := by
  induction d with
  | zero => intro i out; simp only [bld]; exact List.take_length
  | succ d ih =>
    intro i out
    simp only [bld]
    have h := ih (i + 1) (out ++ [oneW k s row above out undo i])
    have h2 := congrArg (List.take out.length) h
    rw [List.take_take, List.length_append, List.length_singleton, Nat.min_eq_left (by omega), List.take_left] at h2
    exact h2
theorem bld_elem (k s : Int) (row above : List Int) (undo : Bool) (d : Nat) : ∀ (i : Nat) (out : List Int), out.length = i → ∀ j (hj : j < (bld k s row above undo d i out).length), i ≤ j → (bld k s row above undo d i out)[j] = oneW k s row above ((bld k s row above undo d i out).take j) undo j := by
  induction d with
  | zero => intro i out h j hj hij; simp only [bld] at hj; omega
  | succ d ih =>
    intro i out h j hj hij
    simp only [bld] at hj ⊢
    rcases Nat.eq_or_lt_of_le hij with rfl | hlt
    · have ht := bld_take k s row above undo d (i + 1) (out ++ [oneW k s row above out undo i])
      rw [List.length_append, List.length_singleton, h] at ht
      have ht2 := congrArg (List.take i) ht
      rw [List.take_take, Nat.min_eq_left (by omega), ← h, List.take_left, h] at ht2
      rw [ht2]
      have e : (bld k s row above undo d (i + 1) (out ++ [oneW k s row above out undo i]))[i]? = (out ++ [oneW k s row above out undo i])[i]? := by
        conv => rhs; rw [← ht]
        rw [List.getElem?_take, if_pos (by omega)]
      have e2 : (out ++ [oneW k s row above out undo i])[i]? = some (oneW k s row above out undo i) := by
        rw [List.getElem?_append_right (by omega), h, Nat.sub_self]; rfl
      rw [List.getElem?_eq_getElem hj, e2] at e
      exact Option.some.inj e
    · exact ih (i + 1) _ (by rw [List.length_append, List.length_singleton, h]) j hj (by omega)
theorem bld_unique (k s : Int) (row above M : List Int) (undo : Bool) (d : Nat) : ∀ (i : Nat), M.length = i + d → (∀ j (hj : j < M.length), i ≤ j → M[j] = oneW k s row above (M.take j) undo j) → bld k s row above undo d i (M.take i) = M := by
  induction d with
  | zero => intro i h _; simp only [bld]; exact List.take_of_length_le (by omega)
  | succ d ih =>
    intro i h hM
    simp only [bld]
    have hi : i < M.length := by omega
    rw [← hM i hi (Nat.le_refl _), ← List.take_succ_eq_append_getElem hi]
    exact ih (i + 1) (by omega) (fun j hj hij => hM j hj (by omega))
theorem oneW_range (k s : Int) (row above X : List Int) (undo : Bool) (i : Int) : 0 ≤ oneW k s row above X undo i ∧ oneW k s row above X undo i ≤ 255 := by
  unfold oneW; split <;> omega
theorem bld_bytes (k s : Int) (row above : List Int) (undo : Bool) (d : Nat) : ∀ (i : Nat) (out : List Int), BytesB out → BytesB (bld k s row above undo d i out) := by
  induction d with
  | zero => intro i out h; exact h
  | succ d ih =>
    intro i out h
    simp only [bld]
    refine ih _ _ (fun v hv => ?_)
    rcases List.mem_append.1 hv with hv | hv
    · exact h v hv
    · rw [List.mem_singleton.1 hv]; exact oneW_range ..
/-- the whole -/
def res (k s : Int) (row above : List Int) (undo : Bool) : List Int := bld k s row above undo row.length 0 []
theorem res_bytes (k s : Int) (row above : List Int) (undo : Bool) : BytesB (res k s row above undo) := bld_bytes _ _ _ _ _ _ _ _ (fun v hv => by simp at hv)
theorem res_len (k s : Int) (row above : List Int) (undo : Bool) : (res k s row above undo).length = row.length := by unfold res; rw [bld_len]; simp
theorem nil_bytes : BytesB [] := fun v hv => by simp at hv

/-! the program -/
def chk (k s : Int) : Int := if s < 1 ∨ 8 < s then 1 else if k < 0 ∨ 4 < k then 13 else 0
theorem check_eq (k s : Int) (n : Nat) : filter_check.f (n + 1) k s = some (chk k s) := by
  unfold filter_check.f chk
  by_cases h1 : s < 1
  · rw [if_pos h1, filter_check.j0, if_pos rfl, if_pos (Or.inl h1)]
  · rw [if_neg h1, filter_check.j0]
    by_cases h2 : s > 8
    · rw [if_pos (decide_eq_true h2), if_pos (Or.inr h2)]
    · rw [if_neg (by simpa using h2), if_neg (show ¬ (s < 1 ∨ 8 < s) by omega)]
      by_cases h3 : k < 0
      · rw [if_pos h3, if_pos (Or.inl h3)]
      · rw [if_neg h3]
        by_cases h4 : k > 4
        · rw [if_pos h4, if_pos (Or.inr h4)]
        · rw [if_neg h4, if_neg (show ¬ (k < 0 ∨ 4 < k) by omega)]
theorem rcheck_eq (k s : Int) (n : Nat) : halftoneref13_Check.f (n + 1) k s = some (chk k s) := by
  have := check_eq k s n
  unfold filter_check.f at this
  unfold halftoneref13_Check.f
  simpa [filter_check.j0, halftoneref13_Check.j0] using this
theorem walk_eq {k s : Int} {row above : List Int} {undo : Bool} (hs : 1 ≤ s) (h8 : s ≤ 8) (hr : BytesB row) (ha : BytesB above) (h1 : row.length ≤ 140737488355328) (h2 : above.length ≤ 9223372036854775807) :
    filter_walk.f k row above s undo = some (res k s row above undo) := by
  unfold filter_walk.f res
  rw [if_pos ⟨hs, h8, h1, h2, hr, ha⟩]
  have := walk_bld k hs row above undo row.length 0 (List.replicate row.length 0) (by rw [List.length_replicate]; omega)
  simpa using this
/-- what both answer -/
def ans (k s : Int) (row above : List Int) (undo : Bool) : List Int × Int := if chk k s = 0 then (res k s row above undo, 0) else ([], chk k s)
theorem chk_zero {k s : Int} (h : chk k s = 0) : 1 ≤ s ∧ s ≤ 8 ∧ 0 ≤ k ∧ k ≤ 4 := by
  unfold chk at h
  split at h
  · omega
  · split at h <;> omega
theorem do_eq (k s : Int) {row above : List Int} (hr : BytesB row) (ha : BytesB above) (h1 : row.length ≤ 140737488355328) (h2 : above.length ≤ 9223372036854775807) (n : Nat) : filter_Do.f (n + 1) k row above s = some (ans k s row above false) := by
  unfold filter_Do.f ans
  rw [check_eq, Option.bind_some]
  by_cases h : chk k s = 0
  · have hc := chk_zero h
    rw [if_pos h, if_pos h, walk_eq hc.1 hc.2.1 hr ha h1 h2]; rfl
  · rw [if_neg h, if_neg h]
theorem undo_eq (k s : Int) {row above : List Int} (hr : BytesB row) (ha : BytesB above) (h1 : row.length ≤ 140737488355328) (h2 : above.length ≤ 9223372036854775807) (n : Nat) : filter_Undo.f (n + 1) k row above s = some (ans k s row above true) := by
  unfold filter_Undo.f ans
  rw [check_eq, Option.bind_some]
  by_cases h : chk k s = 0
  · have hc := chk_zero h
    rw [if_pos h, if_pos h, walk_eq hc.1 hc.2.1 hr ha h1 h2]; rfl
  · rw [if_neg h, if_neg h]
theorem fixed_eq : halftonelaw13_fixed.f 20 = some true := by decide +kernel
theorem ev_fixed : Ev (fun k => halftonelaw13_fixed.f k) true := rounds_of halftonelaw13_fixed.mono ⟨20, fixed_eq⟩
end Go.Proofs.Ytnnhbibbhcbkcaa.Lib
