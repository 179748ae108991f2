/- the document's sender: Ack: whom it hurries: the plain law. -/
import Derived.Test.YtfmggodmhklfoaaR6
namespace Go.Proofs.Ytfmggodmhklfoaa.Lib
open Go.RowKit Go.Shelf Go.Proofs.YtfmggodmhklfoaaW.PrintWords Go.Proofs.YtfmggodmhklfoaaW.PrintLast Go.Proofs.YtfmggodmhklfoaaW.PrintMore
set_option linter.unusedVariables false
set_option linter.unusedSimpArgs false
theorem ackedFrom_step (l : List S54) (s : Nat) : ackedFrom l s = (if (l.getD s z54).f0 = true then 1 else 0) + ackedFrom l (s + 1) := by
  unfold ackedFrom
  by_cases h : s < l.length
  · rw [List.drop_eq_getElem_cons h, List.getD_eq_getElem?_getD, List.getElem?_eq_getElem h, Option.getD_some]
    by_cases h0 : l[s].f0 = true
    · rw [List.filter_cons_of_pos h0, if_pos h0, List.length_cons]; exact Nat.add_comm _ _
    · rw [List.filter_cons_of_neg h0, if_neg h0]; exact (Nat.zero_add _).symm
  · rw [List.drop_eq_nil_of_le (by omega), List.drop_eq_nil_of_le (by omega), List.getD_eq_getElem?_getD, List.getElem?_eq_none (by omega)]
    rfl
theorem ackedFrom_end (l : List S54) (s : Nat) (h : l.length ≤ s) : ackedFrom l s = 0 := by
  unfold ackedFrom
  rw [List.drop_eq_nil_of_le h]
  rfl
theorem Rel.f1 {n b : Nat} {its : List S54} {xs : List S57} (h : Rel n b its xs) (s : Nat) : (xs.getD (b + s) z57).f1 = (its.getD s z54).f0 := by
  by_cases hs : s < its.length
  · rw [h.mid s hs]; rfl
  · rw [h.high _ (by omega), List.getD_eq_getElem?_getD, List.getElem?_eq_none (by omega)]; rfl
theorem Rel.drop {n b d : Nat} {its : List S54} {xs : List S57} (h : Rel n b its xs) (hd : d ≤ its.length) (ha : ∀ j, j < d → (its.getD j z54).f0 = true) : Rel n (b + d) (its.drop d) xs := by
  have hf := h.fit
  refine ⟨h.len, by rw [List.length_drop]; omega, fun i hi => ?_, fun t ht => ?_, fun i hi => ?_⟩
  · by_cases hb : i < b
    · exact h.low i hb
    · obtain ⟨t, rfl⟩ : ∃ t, i = b + t := ⟨i - b, by omega⟩
      rw [h.mid t (by omega)]
      exact ⟨rfl, ha t (by omega)⟩
  · rw [List.length_drop] at ht
    rw [getD_drop_S, Nat.add_assoc]
    exact h.mid (d + t) (by omega)
  · rw [List.length_drop] at hi
    exact h.high i (by omega)
/-- what an ack leaves, seen from the dropped items -/
theorem ack_new (b : Nat) (nw : Int) (its : List S54) (next : Int) (rs : List (Int × Int)) : ∃ (b2 : Nat) (i2 H : List S54), (ackL b nw its next rs) = ((b2 : Int), H) ∧ b ≤ b2 ∧ b2 + i2.length = b + its.length ∧ (i2.getD 0 z54).f0 = false ∧ H.length = i2.length ∧
    (∀ n xs, Rel n b (marks b its next rs) xs → Rel n b2 i2 xs) ∧
    ∀ j, H.getD j z54 = if j < i2.length ∧ (i2.getD j z54).f0 = false ∧ (i2.getD j z54).f1 = false ∧ 3 ≤ ackedFrom i2 (j + 1) then ⟨(i2.getD j z54).f0, true, (i2.getD j z54).f2, nw⟩ else i2.getD j z54 := by
  obtain ⟨d, h1, h2, h3, h4⟩ := dropA_spec b (marks b its next rs)
  have hm := marks_length b its next rs
  refine ⟨b + d, (marks b its next rs).drop d, (hurry nw ((marks b its next rs).drop d)).1, ?_, by omega, by rw [List.length_drop]; omega, by rw [getD_drop_S]; exact h4, (hurry_length nw _).1, fun n xs h => h.drop h1 h3, fun j => hurry_item nw _ j⟩
  unfold ackL
  rw [show dropA b (markAll b (markL b its 0 next) rs) = ((b : Int) + d, (marks b its next rs).drop d) from h2]
  push_cast
  rfl
/-- one item of the hurrying -/
theorem hurry_step {n b : Nat} {i2 H : List S54} {xs : List S57} {nw : Int} (hl : H.length = i2.length) (hH : ∀ j, H.getD j z54 = if j < i2.length ∧ (i2.getD j z54).f0 = false ∧ (i2.getD j z54).f1 = false ∧ 3 ≤ ackedFrom i2 (j + 1) then ⟨(i2.getD j z54).f0, true, (i2.getD j z54).f2, nw⟩ else i2.getD j z54) (t : Nat) (h : Rel n b (mix H i2 (min t i2.length)) xs) :
    (t < i2.length → xs.getD (b + t) z57 = upS (i2.getD t z54)) ∧
    (¬ t < i2.length → xs.getD (b + t) z57 = z57 ∧ Rel n b (mix H i2 (min (t + 1) i2.length)) xs) ∧
    (t < i2.length → (i2.getD t z54).f0 = false → (i2.getD t z54).f1 = false → 3 ≤ ackedFrom i2 (t + 1) → Rel n b (mix H i2 (min (t + 1) i2.length)) (xs.set (b + t) (upS ⟨(i2.getD t z54).f0, true, (i2.getD t z54).f2, nw⟩))) ∧
    (t < i2.length → ¬ ((i2.getD t z54).f0 = false ∧ (i2.getD t z54).f1 = false ∧ 3 ≤ ackedFrom i2 (t + 1)) → Rel n b (mix H i2 (min (t + 1) i2.length)) xs) := by
  have hml : (mix H i2 (min t i2.length)).length = i2.length := by rw [mix_length (by omega) (by omega)]; omega
  refine ⟨fun ht => ?_, fun ht => ⟨?_, ?_⟩, fun ht h0 h1 h3 => ?_, fun ht hno => ?_⟩
  · rw [h.mid t (by omega), mix_getD (by omega), if_neg (by omega)]
  · exact h.high _ (by rw [hml]; omega)
  · rw [show min (t + 1) i2.length = min t i2.length by omega]; exact h
  · have e1 : min t i2.length = t := by omega
    rw [show min (t + 1) i2.length = t + 1 by omega]
    rw [e1] at h hml
    have h2 := h.set t (by omega) (H.getD t z54)
    rw [mix_set (by omega) ht, hH t, if_pos ⟨ht, h0, h1, h3⟩] at h2
    exact h2
  · have e1 : min t i2.length = t := by omega
    rw [show min (t + 1) i2.length = t + 1 by omega]
    rw [e1] at h
    rw [mix_same (by omega) ht (by rw [hH t, if_neg (fun h => hno h.2)])]
    exact h
theorem hurry_f0 {i2 H : List S54} {nw : Int} (hH : ∀ j, H.getD j z54 = if j < i2.length ∧ (i2.getD j z54).f0 = false ∧ (i2.getD j z54).f1 = false ∧ 3 ≤ ackedFrom i2 (j + 1) then ⟨(i2.getD j z54).f0, true, (i2.getD j z54).f2, nw⟩ else i2.getD j z54) (t : Nat) (ht : t ≤ H.length) (s : Nat) : ((mix H i2 t).getD s z54).f0 = (i2.getD s z54).f0 := by
  rw [mix_getD ht]
  split
  · rw [hH]
    split <;> rfl
  · rfl
end Go.Proofs.Ytfmggodmhklfoaa.Lib
