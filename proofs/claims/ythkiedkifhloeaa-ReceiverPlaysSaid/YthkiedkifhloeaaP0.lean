/- receiver, plain: what Take tells. -/
import Derived.Test.YthkiedkifhloeaaK
namespace Go.Proofs.Ythkiedkifhloeaa.Lib
open Go.RowKit
set_option linter.unusedVariables false
variable {α β : Type}
/-- the items that follow each other from nx on are told -/
def popL : Int → List (Int × α) → Int × List (Int × α) × List α
  | nx, [] => (nx, [], [])
  | nx, x :: F => if x.1 = nx then ((popL (nx + 1) F).1, (popL (nx + 1) F).2.1, x.2 :: (popL (nx + 1) F).2.2) else (nx, x :: F, [])
theorem popL_nil (nx : Int) : popL nx ([] : List (Int × α)) = (nx, [], []) := rfl
theorem popL_eq {nx : Int} {x : Int × α} {F : List (Int × α)} (h : x.1 = nx) : popL nx (x :: F) = ((popL (nx + 1) F).1, (popL (nx + 1) F).2.1, x.2 :: (popL (nx + 1) F).2.2) := by
  conv => lhs; unfold popL
  rw [if_pos h]
theorem popL_ne {nx : Int} {x : Int × α} {F : List (Int × α)} (h : x.1 ≠ nx) : popL nx (x :: F) = (nx, x :: F, []) := by
  conv => lhs; unfold popL
  rw [if_neg h]
/-- bounds of what is held -/
structure RvB (n w nx : Int) (F : List (Int × α)) : Prop where
  n0 : 0 ≤ nx
  n1 : nx ≤ n
  n2 : n ≤ 1048577
  w1 : 1 ≤ w
  w2 : w ≤ 64
  asc : Asc F
  lo : ∀ x ∈ F, nx < x.1
  hi : ∀ x ∈ F, x.1 < n ∧ x.1 < nx + w
theorem popL_spec : ∀ (F : List (Int × α)) (nx n : Int), Asc F → (∀ x ∈ F, nx ≤ x.1) → (∀ x ∈ F, x.1 < n) → nx ≤ n →
    nx ≤ (popL nx F).1 ∧ (popL nx F).1 ≤ n ∧ (popL nx F).1 = nx + ((popL nx F).2.2.length : Int) ∧ Asc (popL nx F).2.1 ∧ (∀ x ∈ (popL nx F).2.1, (popL nx F).1 < x.1 ∧ x ∈ F) ∧ (popL nx F).2.2.length + (popL nx F).2.1.length = F.length
  | [], nx, n, _, _, _, hn => by
    rw [popL_nil]
    exact ⟨Int.le_refl _, hn, by simp, List.Pairwise.nil, (fun x hx => absurd hx List.not_mem_nil), by simp⟩
  | x :: F, nx, n, ha, hl, hh, hn => by
    obtain ⟨h1, h2⟩ := List.pairwise_cons.1 ha
    by_cases hx : x.1 = nx
    · rw [popL_eq hx]
      have hxn := hh x List.mem_cons_self
      obtain ⟨a, b, c, d, e, f⟩ := popL_spec F (nx + 1) n h2 (fun y hy => by have := h1 y hy; omega) (fun y hy => hh y (List.mem_cons_of_mem _ hy)) (by omega)
      refine ⟨by show nx ≤ (popL (nx + 1) F).1; omega, b, ?_, d, fun y hy => ⟨(e y hy).1, List.mem_cons_of_mem _ (e y hy).2⟩, ?_⟩
      · show (popL (nx + 1) F).1 = nx + ((x.2 :: (popL (nx + 1) F).2.2).length : Int)
        rw [List.length_cons, c]
        push_cast
        omega
      · show (x.2 :: (popL (nx + 1) F).2.2).length + (popL (nx + 1) F).2.1.length = (x :: F).length
        rw [List.length_cons, List.length_cons]
        omega
    · rw [popL_ne hx]
      have hlx := hl x List.mem_cons_self
      refine ⟨Int.le_refl _, hn, by simp, ha, fun y hy => ⟨?_, hy⟩, by simp⟩
      rcases List.mem_cons.1 hy with rfl | hy
      · show nx < y.1
        omega
      · have := h1 y hy
        show nx < y.1
        omega
/-- two lists with the same keys -/
def RelL (R : α → β → Prop) : List (Int × α) → List (Int × β) → Prop
  | [], [] => True
  | x :: F, l :: L => x.1 = l.1 ∧ R x.2 l.2 ∧ RelL R F L
  | _, _ => False
def Rel2 (R : α → β → Prop) : List α → List β → Prop
  | [], [] => True
  | x :: F, l :: L => R x l ∧ Rel2 R F L
  | _, _ => False
theorem RelL.mono {R R' : α → β → Prop} (h : ∀ a b, R a b → R' a b) : ∀ {F : List (Int × α)} {L : List (Int × β)}, RelL R F L → RelL R' F L
  | [], [], _ => trivial
  | x :: F, l :: L, ⟨a, b, c⟩ => ⟨a, h _ _ b, RelL.mono h c⟩
  | [], _ :: _, h => h.elim
  | _ :: _, [], h => h.elim
theorem Rel2.mono {R R' : α → β → Prop} (h : ∀ a b, R a b → R' a b) : ∀ {F : List α} {L : List β}, Rel2 R F L → Rel2 R' F L
  | [], [], _ => trivial
  | x :: F, l :: L, ⟨b, c⟩ => ⟨h _ _ b, Rel2.mono h c⟩
  | [], _ :: _, h => h.elim
  | _ :: _, [], h => h.elim
theorem Rel2.length {R : α → β → Prop} : ∀ {F : List α} {L : List β}, Rel2 R F L → F.length = L.length
  | [], [], _ => rfl
  | x :: F, l :: L, ⟨_, c⟩ => by rw [List.length_cons, List.length_cons, Rel2.length c]
  | [], _ :: _, h => h.elim
  | _ :: _, [], h => h.elim
theorem Rel2.at_ {R : α → β → Prop} : ∀ {F : List α} {L : List β}, Rel2 R F L → ∀ (j : Nat) (a : α) (b : β), F[j]? = some a → L[j]? = some b → R a b
  | x :: F, l :: L, ⟨h, c⟩, 0, a, b, ha, hb => by
    obtain rfl := Option.some.inj ha
    obtain rfl := Option.some.inj hb
    exact h
  | x :: F, l :: L, ⟨h, c⟩, j + 1, a, b, ha, hb => c.at_ j a b ha hb
  | [], _, _, j, a, b, ha, hb => by simp at ha
theorem RelL.length {R : α → β → Prop} : ∀ {F : List (Int × α)} {L : List (Int × β)}, RelL R F L → F.length = L.length
  | [], [], _ => rfl
  | x :: F, l :: L, ⟨_, _, c⟩ => by rw [List.length_cons, List.length_cons, RelL.length c]
  | [], _ :: _, h => h.elim
  | _ :: _, [], h => h.elim
theorem RelL.keys {R : α → β → Prop} : ∀ {F : List (Int × α)} {L : List (Int × β)}, RelL R F L → F.map Prod.fst = L.map Prod.fst
  | [], [], _ => rfl
  | x :: F, l :: L, ⟨h, _, c⟩ => by rw [List.map_cons, List.map_cons, h, RelL.keys c]
  | [], _ :: _, h => h.elim
  | _ :: _, [], h => h.elim
theorem RelL.at_none {R : α → β → Prop} : ∀ {F : List (Int × α)} {L : List (Int × β)}, RelL R F L → ∀ i, atF F i = none ↔ atF L i = none
  | [], [], _, i => ⟨fun _ => rfl, fun _ => rfl⟩
  | x :: F, l :: L, ⟨h, _, c⟩, i => by
    rw [atF_cons, atF_cons, ← h]
    by_cases e : x.1 = i
    · rw [if_pos e, if_pos e]
      simp
    · rw [if_neg e, if_neg e]
      exact RelL.at_none c i
  | [], _ :: _, h, _ => h.elim
  | _ :: _, [], h, _ => h.elim
theorem RelL.ins {R : α → β → Prop} {i : Int} {v : α} {u : β} (hv : R v u) : ∀ {F : List (Int × α)} {L : List (Int × β)}, RelL R F L → RelL R (insF i v F) (insF i u L)
  | [], [], _ => ⟨rfl, hv, trivial⟩
  | x :: F, l :: L, ⟨h, b, c⟩ => by
    unfold insF
    rw [← h]
    by_cases e : i < x.1
    · rw [if_pos e, if_pos e]
      exact ⟨rfl, hv, h, b, c⟩
    · rw [if_neg e, if_neg e]
      exact ⟨h, b, RelL.ins hv c⟩
  | [], _ :: _, h => h.elim
  | _ :: _, [], h => h.elim
theorem RelL.pop {R : α → β → Prop} : ∀ {F : List (Int × α)} {L : List (Int × β)}, RelL R F L → ∀ nx, (popL nx F).1 = (popL nx L).1 ∧ RelL R (popL nx F).2.1 (popL nx L).2.1 ∧ Rel2 R (popL nx F).2.2 (popL nx L).2.2
  | [], [], _, nx => ⟨rfl, trivial, trivial⟩
  | x :: F, l :: L, ⟨h, b, c⟩, nx => by
    by_cases e : x.1 = nx
    · rw [popL_eq e, popL_eq (h ▸ e)]
      obtain ⟨p, q, r⟩ := RelL.pop c (nx + 1)
      exact ⟨p, q, b, r⟩
    · rw [popL_ne e, popL_ne (fun e2 => e (h.trans e2))]
      exact ⟨rfl, ⟨h, b, c⟩, trivial⟩
  | [], _ :: _, h, _ => h.elim
  | _ :: _, [], h, _ => h.elim
/-- an item that may come -/
theorem RvB.take {n w nx : Int} {F : List (Int × α)} (h : RvB n w nx F) {i : Int} (hi : nx ≤ i ∧ i < n ∧ i < nx + w) (hn : atF F i = none) (v : α) :
    RvB n w (popL nx (insF i v F)).1 (popL nx (insF i v F)).2.1 ∧ nx ≤ (popL nx (insF i v F)).1 := by
  have ha := insF_asc h.asc hn v
  have hlo : ∀ x ∈ insF i v F, nx ≤ x.1 := fun x hx => by
    rcases (insF_mem i v F x).1 hx with rfl | hx
    · exact hi.1
    · have := h.lo x hx; omega
  have hhi : ∀ x ∈ insF i v F, x.1 < n ∧ x.1 < nx + w := fun x hx => by
    rcases (insF_mem i v F x).1 hx with rfl | hx
    · exact hi.2
    · exact h.hi x hx
  obtain ⟨a, b, c, d, e, f⟩ := popL_spec _ nx n ha hlo (fun x hx => (hhi x hx).1) h.n1
  refine ⟨⟨Int.le_trans h.n0 a, b, h.n2, h.w1, h.w2, d, fun x hx => (e x hx).1, fun x hx => ?_⟩, a⟩
  have := hhi x (e x hx).2
  omega
/-- fewer than the window are held -/
theorem asc_len : ∀ (F : List (Int × α)) (a b : Int), Asc F → (∀ x ∈ F, a < x.1 ∧ x.1 < b) → a < b → (F.length : Int) < b - a
  | [], a, b, _, _, hab => by simp; omega
  | x :: F, a, b, ha, h, hab => by
    obtain ⟨h1, h2⟩ := List.pairwise_cons.1 ha
    have hx := h x List.mem_cons_self
    have := asc_len F x.1 b h2 (fun y hy => ⟨h1 y hy, (h y (List.mem_cons_of_mem _ hy)).2⟩) hx.2
    rw [List.length_cons]
    push_cast
    omega
theorem RvB.len {n w nx : Int} {F : List (Int × α)} (h : RvB n w nx F) : (F.length : Int) < w := by
  have := asc_len F nx (nx + w) h.asc (fun x hx => ⟨h.lo x hx, (h.hi x hx).2⟩) (by have := h.w1; omega)
  omega
end Go.Proofs.Ythkiedkifhloeaa.Lib
