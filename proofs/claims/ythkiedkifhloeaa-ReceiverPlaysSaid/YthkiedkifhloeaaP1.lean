/- ReceiverWhole, plain: a text in items is told whole. -/
import Derived.Test.YthkiedkifhloeaaP0
namespace Go.Proofs.Ythkiedkifhloeaa.Lib
open Go.RowKit
set_option linter.unusedVariables false
/-- the items of a text -/
def itsL (k : Nat) (text : List Int) (n : Nat) : List (List Int) := (List.range n).map fun t => (text.drop (t * k)).take k
theorem itsL_length (k : Nat) (text : List Int) (n : Nat) : (itsL k text n).length = n := by simp [itsL]
theorem itsL_succ (k : Nat) (text : List Int) (n : Nat) : itsL k text (n + 1) = itsL k text n ++ [(text.drop (n * k)).take k] := by
  unfold itsL
  rw [List.range_succ, List.map_append]
  rfl
theorem itsL_flat (k : Nat) (text : List Int) : ∀ n, (itsL k text n).flatten = text.take (n * k)
  | 0 => by simp [itsL]
  | n + 1 => by
    rw [itsL_succ, List.flatten_append, itsL_flat k text n, List.flatten_singleton, Nat.succ_mul, List.take_add]
theorem itsL_at (k : Nat) (text : List Int) (n j : Nat) (h : j < n) : (itsL k text n).getD j [] = (text.drop (j * k)).take k := by
  rw [List.getD_eq_getElem?_getD]
  simp [itsL, h]
theorem popL_items {items : List (List Int)} : ∀ (F : List (Int × List Int)) (nx : Int), 0 ≤ nx → (∀ x ∈ F, x.2 = items.getD x.1.toNat [] ∧ x.1.toNat < items.length) →
    (popL nx F).2.2 = (items.drop nx.toNat).take (popL nx F).2.2.length
  | [], nx, _, _ => by simp [popL_nil]
  | x :: F, nx, h0, h => by
    by_cases e : x.1 = nx
    · rw [popL_eq e]
      obtain ⟨h1, h2⟩ := h x List.mem_cons_self
      have ih := popL_items F (nx + 1) (by omega) (fun y hy => h y (List.mem_cons_of_mem _ hy))
      show x.2 :: (popL (nx + 1) F).2.2 = (items.drop nx.toNat).take (x.2 :: (popL (nx + 1) F).2.2).length
      rw [e] at h1 h2
      rw [List.drop_eq_getElem_cons h2, List.length_cons, List.take_succ_cons, ← show (nx + 1).toNat = nx.toNat + 1 from by omega, ← ih, h1, List.getD_eq_getElem?_getD, List.getElem?_eq_getElem h2]
      rfl
    · rw [popL_ne e]
      simp
/-- what is told and held of the items -/
structure PW (items : List (List Int)) (w nx : Int) (L : List (Int × List Int)) (told : List Int) : Prop where
  b : RvB (items.length : Int) w nx L
  en : ∀ x ∈ L, x.2 = items.getD x.1.toNat []
  td : told = (items.take nx.toNat).flatten
theorem PW.take {items : List (List Int)} {w nx : Int} {L : List (Int × List Int)} {told : List Int} (h : PW items w nx L told) {a : Nat} (ha : nx ≤ a ∧ (a : Int) < items.length ∧ (a : Int) < nx + w) (hn : atF L (a : Int) = none) :
    PW items w (popL nx (insF (a : Int) (items.getD a []) L)).1 (popL nx (insF (a : Int) (items.getD a []) L)).2.1 (told ++ (popL nx (insF (a : Int) (items.getD a []) L)).2.2.flatten) ∧ nx ≤ (popL nx (insF (a : Int) (items.getD a []) L)).1 ∧ (nx = a → nx < (popL nx (insF (a : Int) (items.getD a []) L)).1) := by
  obtain ⟨hb, hle⟩ := h.b.take ha hn (items.getD a [])
  have hen : ∀ x ∈ insF (a : Int) (items.getD a []) L, x.2 = items.getD x.1.toNat [] ∧ x.1.toNat < items.length := fun x hx => by
    rcases (insF_mem _ _ L x).1 hx with rfl | hx
    · exact ⟨by simp, by simp; omega⟩
    · have := (h.b.hi x hx).1
      have := h.b.lo x hx
      have := h.b.n0
      exact ⟨h.en x hx, by omega⟩
  have hlo : ∀ x ∈ insF (a : Int) (items.getD a []) L, nx ≤ x.1 := fun x hx => by
    rcases (insF_mem _ _ L x).1 hx with rfl | hx
    · exact ha.1
    · have := h.b.lo x hx; omega
  obtain ⟨s1, s2, s3, s4, s5, s6⟩ := popL_spec (insF (a : Int) (items.getD a []) L) nx (items.length : Int) (insF_asc h.b.asc hn _) hlo (fun x hx => by have := (hen x hx).2; have := hlo x hx; have := h.b.n0; omega) h.b.n1
  have hp := popL_items (insF (a : Int) (items.getD a []) L) nx h.b.n0 hen
  refine ⟨⟨hb, fun x hx => (hen x (s5 x hx).2).1, ?_⟩, hle, fun hna => ?_⟩
  · rw [h.td, s3, hp]
    have h0 := h.b.n0
    rw [show (nx + ((List.take (popL nx (insF (a : Int) (items.getD a []) L)).2.2.length (List.drop nx.toNat items)).length : Int)).toNat = nx.toNat + (List.take (popL nx (insF (a : Int) (items.getD a []) L)).2.2.length (List.drop nx.toNat items)).length from by omega]
    rw [← hp, List.take_add, List.flatten_append]
    conv => lhs; rw [hp]
  · cases L with
    | nil =>
      have e : popL nx (insF (a : Int) (items.getD a []) []) = (nx + 1, [], [items.getD a []]) := by
        unfold insF
        rw [popL_eq (show ((a : Int), items.getD a []).1 = nx from hna.symm), popL_nil]
      rw [e]
      show nx < nx + 1
      omega
    | cons x L =>
      have hx := h.b.lo x List.mem_cons_self
      have e : insF (a : Int) (items.getD a []) (x :: L) = ((a : Int), items.getD a []) :: x :: L := by
        unfold insF
        rw [if_pos (by omega)]
      have h5 := s3
      rw [e, popL_eq (show ((a : Int), items.getD a []).1 = nx from hna.symm)] at h5 ⊢
      simp only [List.length_cons] at h5 ⊢
      omega
theorem PW.new (items : List (List Int)) (w : Int) (hn : items.length ≤ 1048577) (hw : 1 ≤ w ∧ w ≤ 64) : PW items w 0 [] [] :=
  ⟨⟨Int.le_refl _, by omega, by omega, hw.1, hw.2, List.Pairwise.nil, fun x hx => absurd hx List.not_mem_nil, fun x hx => absurd hx List.not_mem_nil⟩, fun x hx => absurd hx List.not_mem_nil, by simp⟩
theorem PW.done {items : List (List Int)} {w nx : Int} {L : List (Int × List Int)} {told : List Int} (h : PW items w nx L told) (hd : nx = items.length) : told = items.flatten := by
  rw [h.td, hd, Int.toNat_natCast, List.take_length]
end Go.Proofs.Ythkiedkifhloeaa.Lib
