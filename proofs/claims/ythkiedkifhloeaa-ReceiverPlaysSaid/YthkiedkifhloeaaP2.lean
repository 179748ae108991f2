/- ReceiverOrder, plain: items are told in their order. -/
import Derived.Test.YthkiedkifhloeaaP1
namespace Go.Proofs.Ythkiedkifhloeaa.Lib
open Go.RowKit
set_option linter.unusedVariables false
theorem atF_ins {α : Type} {i : Int} {v : α} : ∀ {F : List (Int × α)}, atF F i = none → ∀ j, atF (insF i v F) j = if j = i then some v else atF F j
  | [], _, j => by
    unfold insF
    rw [atF_cons]
    by_cases e : j = i
    · rw [if_pos e.symm, if_pos e]
    · rw [if_neg (fun h => e h.symm), if_neg e]
  | x :: F, hn, j => by
    have hx : x.1 ≠ i := atF_none _ _ hn x List.mem_cons_self
    have hn' : atF F i = none := by
      rw [atF_cons, if_neg hx] at hn
      exact hn
    unfold insF
    split
    · rw [atF_cons]
      by_cases e : j = i
      · rw [if_pos e.symm, if_pos e]
      · rw [if_neg (fun h => e h.symm), if_neg e]
    · rw [atF_cons, atF_ins hn' j, atF_cons]
      by_cases e : x.1 = j
      · rw [if_pos e, if_neg (fun h => hx (e.trans h)), if_pos e]
      · rw [if_neg e, if_neg e]
theorem popL_ge {α : Type} : ∀ (F : List (Int × α)) (nx : Int), nx ≤ (popL nx F).1
  | [], nx => Int.le_refl _
  | x :: F, nx => by
    by_cases e : x.1 = nx
    · rw [popL_eq e]
      have := popL_ge F (nx + 1)
      show nx ≤ (popL (nx + 1) F).1
      omega
    · rw [popL_ne e]
      exact Int.le_refl _
theorem popL_keys {α : Type} : ∀ (F : List (Int × α)) (nx : Int), Asc F → (∀ x ∈ F, nx ≤ x.1) → ∀ j, nx ≤ j → ((atF F j).isSome = true ↔ j < (popL nx F).1 ∨ (atF (popL nx F).2.1 j).isSome = true)
  | [], nx, _, _, j, hj => by
    rw [popL_nil]
    constructor
    · intro h
      exact .inr h
    · rintro (h | h)
      · have : j < nx := h
        omega
      · exact h
  | x :: F, nx, ha, hl, j, hj => by
    obtain ⟨h1, h2⟩ := List.pairwise_cons.1 ha
    by_cases e : x.1 = nx
    · rw [popL_eq e]
      have hlo : ∀ y ∈ F, nx + 1 ≤ y.1 := fun y hy => by have := h1 y hy; omega
      have hge : nx + 1 ≤ (popL (nx + 1) F).1 := popL_ge F (nx + 1)
      show (atF (x :: F) j).isSome = true ↔ j < (popL (nx + 1) F).1 ∨ (atF (popL (nx + 1) F).2.1 j).isSome = true
      rw [atF_cons]
      by_cases ej : x.1 = j
      · rw [if_pos ej]
        exact ⟨fun _ => .inl (by omega), fun _ => rfl⟩
      · rw [if_neg ej]
        exact popL_keys F (nx + 1) h2 hlo j (by omega)
    · rw [popL_ne e]
      constructor
      · exact fun h => .inr h
      · rintro (h | h)
        · have : j < nx := h
          omega
        · exact h
/-- what is told and held, and which items have come -/
structure PO (n : Nat) (w nx : Int) (L : List (Int × List Int)) (bs : List Bool) (cb : List (List Int)) : Prop where
  b : RvB (n : Int) w nx L
  lb : bs.length = n
  lc : cb.length = n
  en : ∀ x ∈ L, x.2 = cb.getD x.1.toNat []
  iff : ∀ j : Nat, j < n → (bs.getD j false = true ↔ (j : Int) < nx ∨ (atF L (j : Int)).isSome = true)
theorem getD_set {α : Type} (l : List α) (i j : Nat) (v z : α) (h : i < l.length) : (l.set i v).getD j z = if j = i then v else l.getD j z := by
  rw [List.getD_eq_getElem?_getD, List.getD_eq_getElem?_getD]
  by_cases e : j = i
  · subst e
    rw [if_pos rfl, List.getElem?_set_self h]
    rfl
  · rw [if_neg e, List.getElem?_set_ne (fun h2 => e h2.symm)]
theorem PO.new (n : Nat) (w : Int) (hn : n ≤ 1048577) (hw : 1 ≤ w ∧ w ≤ 64) : PO n w 0 [] (List.replicate n false) (List.replicate n []) :=
  ⟨⟨Int.le_refl _, by omega, by omega, hw.1, hw.2, List.Pairwise.nil, fun x hx => absurd hx List.not_mem_nil, fun x hx => absurd hx List.not_mem_nil⟩, by simp, by simp, fun x hx => absurd hx List.not_mem_nil, fun j hj => by
    rw [List.getD_eq_getElem?_getD, List.getElem?_replicate, if_pos hj]
    constructor
    · intro h; cases h
    · rintro (h | h)
      · omega
      · cases h⟩
theorem PO.take {n : Nat} {w nx : Int} {L : List (Int × List Int)} {bs : List Bool} {cb : List (List Int)} (h : PO n w nx L bs cb) {a : Nat} (ha : nx ≤ a ∧ (a : Int) < n ∧ (a : Int) < nx + w) (hn : atF L (a : Int) = none) (d : List Int) :
    bs.getD a false = false ∧ PO n w (popL nx (insF (a : Int) d L)).1 (popL nx (insF (a : Int) d L)).2.1 (bs.set a true) (cb.set a d) ∧ (popL nx (insF (a : Int) d L)).1 = nx + ((popL nx (insF (a : Int) d L)).2.2.length : Int) ∧
      ∀ s, s < (popL nx (insF (a : Int) d L)).2.2.length → (popL nx (insF (a : Int) d L)).2.2.getD s [] = (cb.set a d).getD (nx.toNat + s) [] ∧ (bs.set a true).getD (nx.toNat + s) false = true := by
  have han : a < n := by omega
  have hba : bs.getD a false = false := by
    cases hb : bs.getD a false with
    | false => rfl
    | true =>
      rcases (h.iff a han).1 hb with q | q
      · omega
      · rw [hn] at q
        cases q
  obtain ⟨hb, hle⟩ := h.b.take ha hn d
  have h0 := h.b.n0
  have hen : ∀ x ∈ insF (a : Int) d L, x.2 = (cb.set a d).getD x.1.toNat [] ∧ x.1.toNat < (cb.set a d).length := fun x hx => by
    rw [List.length_set, h.lc, getD_set _ _ _ _ _ (by rw [h.lc]; exact han)]
    rcases (insF_mem _ _ L x).1 hx with rfl | hx
    · exact ⟨by simp, by simp; omega⟩
    · have h1 := (h.b.hi x hx).1
      have h2 := h.b.lo x hx
      have h3 := atF_none _ _ hn x hx
      rw [if_neg (by omega)]
      exact ⟨h.en x hx, by omega⟩
  have hlo : ∀ x ∈ insF (a : Int) d L, nx ≤ x.1 := fun x hx => by
    rcases (insF_mem _ _ L x).1 hx with rfl | hx
    · exact ha.1
    · have := h.b.lo x hx; omega
  have hasc := insF_asc h.b.asc hn d
  obtain ⟨s1, s2, s3, s4, s5, s6⟩ := popL_spec (insF (a : Int) d L) nx (n : Int) hasc hlo (fun x hx => by have := (hen x hx).2; have := hlo x hx; rw [List.length_set, h.lc] at *; omega) h.b.n1
  have hp := popL_items (items := cb.set a d) (insF (a : Int) d L) nx h0 hen
  have hiff : ∀ j : Nat, j < n → ((bs.set a true).getD j false = true ↔ (j : Int) < (popL nx (insF (a : Int) d L)).1 ∨ (atF (popL nx (insF (a : Int) d L)).2.1 (j : Int)).isSome = true) := fun j hj => by
    rw [getD_set _ _ _ _ _ (by rw [h.lb]; exact han)]
    by_cases hjn : (j : Int) < nx
    · have h1 := (h.iff j hj).2 (.inl hjn)
      have e : ¬ j = a := by omega
      rw [if_neg e]
      exact ⟨fun _ => .inl (by omega), fun _ => h1⟩
    · have hk := popL_keys (insF (a : Int) d L) nx hasc hlo (j : Int) (by omega)
      rw [← hk, atF_ins hn]
      by_cases e : j = a
      · rw [if_pos e, if_pos (by omega)]
        exact ⟨fun _ => rfl, fun _ => rfl⟩
      · rw [if_neg e, if_neg (by omega), h.iff j hj]
        exact ⟨fun q => q.resolve_left hjn, fun q => .inr q⟩
  refine ⟨hba, ⟨hb, by rw [List.length_set]; exact h.lb, by rw [List.length_set]; exact h.lc, fun x hx => (hen x (s5 x hx).2).1, hiff⟩, s3, fun s hs => ⟨?_, ?_⟩⟩
  · have hl2 : ((cb.set a d).drop nx.toNat).length ≥ (popL nx (insF (a : Int) d L)).2.2.length := by
      have h1 := congrArg List.length hp
      rw [List.length_take] at h1
      omega
    rw [hp]
    rw [List.getD_eq_getElem?_getD, List.getElem?_take, if_pos hs, List.getElem?_drop, List.getD_eq_getElem?_getD]
  · refine (hiff (nx.toNat + s) ?_).2 (.inl ?_)
    · omega
    · rw [s3]
      omega
/-- behind the items that were told stands one that has not come -/
theorem PO.next {n : Nat} {w nx : Int} {L : List (Int × List Int)} {bs : List Bool} {cb : List (List Int)} (h : PO n w nx L bs cb) (hn : nx < n) : bs.getD nx.toNat false = false := by
  have h0 := h.b.n0
  cases hb : bs.getD nx.toNat false with
  | false => rfl
  | true =>
    rcases (h.iff nx.toNat (by omega)).1 hb with q | q
    · omega
    · cases hf : atF L (nx.toNat : Int) with
      | none => rw [hf] at q; cases q
      | some y =>
        have := h.b.lo _ (atF_mem _ _ _ hf)
        simp only at this
        omega
end Go.Proofs.Ythkiedkifhloeaa.Lib
