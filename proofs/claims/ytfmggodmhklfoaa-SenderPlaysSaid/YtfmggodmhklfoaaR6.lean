/- the document's sender: Ack: what it marks: the plain law. -/
import Derived.Test.YtfmggodmhklfoaaR5
namespace Go.Proofs.Ytfmggodmhklfoaa.Lib
open Go.RowKit Go.Shelf Go.Proofs.YtfmggodmhklfoaaW.PrintWords Go.Proofs.YtfmggodmhklfoaaW.PrintLast Go.Proofs.YtfmggodmhklfoaaW.PrintMore
set_option linter.unusedVariables false
set_option linter.unusedSimpArgs false
theorem Rel.setlow {n b : Nat} {its : List S54} {xs : List S57} (h : Rel n b its xs) (k : Nat) (hk : k < b) (x : S57) (h0 : x.f0 = true) (h1 : x.f1 = true) : Rel n b its (xs.set k x) := by
  have hf := h.fit
  refine ⟨by simp [h.len], hf, fun i hi => ?_, fun j hj => ?_, fun i hi => ?_⟩
  · rw [getD_set_R]
    split
    · exact ⟨h0, h1⟩
    · exact h.low i hi
  · rw [getD_set_R, if_neg (by omega)]; exact h.mid j hj
  · rw [getD_set_R, if_neg (by omega)]; exact h.high i hi
/-- is it told to have come? -/
def toldR (next : Int) (rs : List (Int × Int)) (k : Nat) : Bool := decide ((k : Int) < next) || toldBy rs k
theorem toldBy_succ (rs : List (Int × Int)) (x : Int) (j : Nat) (hj : j < rs.length) : toldBy (rs.take (j + 1)) x = (toldBy (rs.take j) x || (decide ((rs.getD j (0, 0)).1 ≤ x) && decide (x < (rs.getD j (0, 0)).2))) := by
  have e : rs.getD j (0, 0) = rs[j] := by rw [List.getD_eq_getElem?_getD, List.getElem?_eq_getElem hj]; rfl
  unfold toldBy
  rw [List.take_succ_eq_append_getElem hj, List.any_append, e]
  simp
/-- the items that an ack marks -/
abbrev marks (b : Nat) (its : List S54) (next : Int) (rs : List (Int × Int)) : List S54 := markAll b (markL b its 0 next) rs
theorem marks_length (b : Nat) (its : List S54) (next : Int) (rs : List (Int × Int)) : (marks b its next rs).length = its.length := by
  rw [marks, markAll_length, markL_length]
theorem marks_item (b : Nat) (its : List S54) (next : Int) (rs : List (Int × Int)) (t : Nat) (ht : t < its.length) : (marks b its next rs).getD t z54 = if toldR next rs (b + t) = true then { its.getD t z54 with f0 := true } else its.getD t z54 := by
  rw [marks, marked_item]
  unfold toldR
  by_cases h1 : (b : Int) + t < next
  · rw [if_pos ⟨ht, .inl ⟨by omega, h1⟩⟩, if_pos (by simp; left; push_cast; exact h1)]
  · by_cases h2 : toldBy rs ((b : Int) + t) = true
    · rw [if_pos ⟨ht, .inr h2⟩, if_pos (by simp; right; push_cast; exact h2)]
    · rw [if_neg (fun h => h.2.elim (fun h => h1 h.2) h2), if_neg (by simp only [Bool.or_eq_true, decide_eq_true_eq, not_or]; push_cast; exact ⟨h1, h2⟩)]
/-- one item of the marking -/
theorem mark_step {n b : Nat} {its : List S54} {xs : List S57} (next : Int) (rs : List (Int × Int)) (k : Nat) (h : Rel n b (mix (marks b its next rs) its (min (k - b) its.length)) xs) :
    (toldR next rs k = true → (xs.getD k z57).f0 = true → Rel n b (mix (marks b its next rs) its (min (k + 1 - b) its.length)) (xs.set k { xs.getD k z57 with f1 := true })) ∧
    ((toldR next rs k = false ∨ (xs.getD k z57).f0 = false) → Rel n b (mix (marks b its next rs) its (min (k + 1 - b) its.length)) xs) := by
  have hm := marks_length b its next rs
  have hml : (mix (marks b its next rs) its (min (k - b) its.length)).length = its.length := by rw [mix_length (by omega) (by omega)]; omega
  by_cases hkb : k < b
  · have e : min (k + 1 - b) its.length = min (k - b) its.length := by omega
    rw [e]
    obtain ⟨h0, h1⟩ := h.low k hkb
    exact ⟨fun _ _ => h.setlow k hkb _ h0 rfl, fun _ => h⟩
  · by_cases hkl : k < b + its.length
    · obtain ⟨t, rfl⟩ : ∃ t, k = b + t := ⟨k - b, by omega⟩
      have ht : t < its.length := by omega
      have e1 : min (b + t - b) its.length = t := by omega
      have e2 : min (b + t + 1 - b) its.length = t + 1 := by omega
      rw [e1] at h hml
      rw [e2]
      have hx := h.mid t (by omega)
      rw [mix_getD (by omega), if_neg (Nat.lt_irrefl t)] at hx
      have hit := marks_item b its next rs t ht
      rw [hx]
      refine ⟨fun htold _ => ?_, fun hno => ?_⟩
      · rw [if_pos htold] at hit
        have h2 := h.set t (by omega) ((marks b its next rs).getD t z54)
        rw [mix_set (by omega) ht, hit] at h2
        exact h2
      · rcases hno with hno | hno
        · rw [if_neg (by rw [hno]; simp)] at hit
          rw [mix_same (by omega) ht hit]
          exact h
        · exact absurd hno (by simp [upS])
    · have e : min (k + 1 - b) its.length = min (k - b) its.length := by omega
      rw [e]
      have hx := h.high k (by rw [hml]; omega)
      refine ⟨fun _ h0 => ?_, fun _ => h⟩
      rw [hx] at h0
      exact absurd h0 (by simp [z57])
end Go.Proofs.Ytfmggodmhklfoaa.Lib
