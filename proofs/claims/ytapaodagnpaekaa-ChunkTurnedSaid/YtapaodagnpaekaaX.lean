/- a region that draws its order, by what holds of its operations listed so far: one step for each operation, whatever the order. -/
import Derived.Test.YtapaodagnpaekaaF0
namespace Go.Proofs.Ytapaodagnpaekaa.Lib
open Go.RowKit Go.Proofs.YtapaodagnpaekaaW.PrintWords Go.Proofs.YtapaodagnpaekaaW.PrintLast Go.Proofs.YtapaodagnpaekaaW.PrintMore
set_option linter.unusedVariables false
set_option linter.unusedSimpArgs false
section
variable {P : Program} {ops : Array Oper} {Q : Exit → Act → World → Prop} {md : Region.Mode}
/-- each operation waits for lower ones alone -/
def lowB (ops : Array Oper) : Bool := (List.range ops.size).all fun i => match ops[i]? with
  | some o => o.after.all fun e => decide (e.on < i)
  | none => true
theorem filter_lt (p q : Nat → Bool) (hpq : ∀ j, q j = true → p j = true) (i : Nat) (hp : p i = true) (hq : q i = false) : ∀ l : List Nat, (l.filter q).length ≤ (l.filter p).length ∧ (i ∈ l → (l.filter q).length < (l.filter p).length)
  | [] => by simp
  | x :: l => by
    obtain ⟨h1, h2⟩ := filter_lt p q hpq i hp hq l
    have h3 := hpq x
    by_cases e : i = x
    · subst e
      simp [List.filter_cons, hp, hq]
      omega
    · cases hx : q x
      · cases hy : p x
        · refine ⟨by simpa [List.filter_cons, hx, hy] using h1, fun hm => ?_⟩
          have := h2 (by simpa [e] using hm)
          simpa [List.filter_cons, hx, hy] using this
        · simp [List.filter_cons, hx, hy]
          omega
      · have hy := h3 hx
        refine ⟨by simpa [List.filter_cons, hx, hy] using h1, fun hm => ?_⟩
        have := h2 (by simpa [e] using hm)
        simpa [List.filter_cons, hx, hy] using this
def upd (l : Nat → Bool) (i : Nat) : Nat → Bool := fun j => if j = i then true else l j
theorem wpAny_inv (hlow : lowB ops = true) (Inv : (Nat → Bool) → Act → World → Prop)
    (hstep : ∀ i o, ops[i]? = some o → ∀ l a w, l i = false → (∀ e ∈ o.after, Region.binds md e = true → l e.on = true) → Inv l a w → wpOp P ops Q i (fun a' w' => Inv (upd l i) a' w') a w)
    (hend : ∀ l a w, (∀ i, i < ops.size → l i = true) → Inv l a w → Q .normal a w) :
    ∀ (fuel : Nat) (listed : Array Bool) (a : Act) (w : World), listed.size = ops.size → ((List.range ops.size).filter fun j => !listed.getD j true).length ≤ fuel → Inv (fun j => listed.getD j false) a w → wpAny P md ops Q fuel listed a w := by
  have hall : ∀ listed : Array Bool, listed.size = ops.size → Region.ready md ops listed = [] → ∀ i, i < ops.size → listed.getD i false = true := by
    intro listed hs hr i
    induction i using Nat.strongRecOn with
    | _ i ih =>
      intro hi
      cases hl : listed.getD i false with
      | true => rfl
      | false =>
        exfalso
        have hm : i ∈ Region.ready md ops listed := by
          refine mem_ready.2 ⟨?_, ops[i], Array.getElem?_eq_getElem hi, fun e he _ => ?_⟩
          · simp only [Array.getD, hs, hi, dif_pos] at hl ⊢
            exact hl
          · have h1 := List.all_eq_true.1 hlow i (List.mem_range.2 hi)
            rw [Array.getElem?_eq_getElem hi] at h1
            have h2 := of_decide_eq_true (Array.all_eq_true_iff_forall_mem.1 h1 e he)
            exact ih e.on h2 (Nat.lt_trans h2 hi)
        rw [hr] at hm
        cases hm
  intro fuel
  induction fuel with
  | zero =>
    intro listed a w hs hc hI
    have h1 : Region.ready md ops listed = [] := by
      rw [List.eq_nil_iff_forall_not_mem]
      intro j hj
      obtain ⟨h2, o, ho, _⟩ := mem_ready.1 hj
      have h3 : j ∈ (List.range ops.size).filter fun j => !listed.getD j true := List.mem_filter.2 ⟨List.mem_range.2 (Array.getElem?_eq_some_iff.1 ho).1, by simp [h2]⟩
      rw [List.eq_nil_of_length_eq_zero (Nat.le_zero.1 hc)] at h3
      cases h3
    exact ⟨h1, hend _ a w (hall listed hs h1) hI⟩
  | succ fuel ih =>
    intro listed a w hs hc hI
    refine ⟨fun hr => hend _ a w (hall listed hs hr) hI, fun i hi => ?_⟩
    obtain ⟨h2, o, ho, ha⟩ := mem_ready.1 hi
    have hlt : i < ops.size := (Array.getElem?_eq_some_iff.1 ho).1
    have hf : listed.getD i false = false := by
      simp only [Array.getD, hs, hlt, dif_pos] at h2 ⊢
      exact h2
    refine wpOp_mono (fun a' w' h => ih _ a' w' (by simpa using hs) ?_ ?_) (hstep i o ho (fun j => listed.getD j false) a w hf (fun e he hb => ha e he hb) hI)
    · have h4 := (filter_lt (fun j => !listed.getD j true) (fun j => !(listed.setIfInBounds i true).getD j true) (fun j hj => by
        by_cases e : i = j
        · subst e
          simp [getD_set_true, hs, hlt] at hj
        · rwa [getD_set_ne true e] at hj) i (by simp [h2]) (by simp [hs, hlt]) (List.range ops.size)).2 (List.mem_range.2 hlt)
      omega
    · have e : (fun j => (listed.setIfInBounds i true).getD j false) = upd (fun j => listed.getD j false) i := by
        funext j
        unfold upd
        by_cases e : j = i
        · subst e
          simp [hs, hlt]
        · rw [if_neg e, getD_set_ne false (Ne.symm e)]
      rw [e]
      exact h
def closedL (ops : Array Oper) (l : Nat → Bool) : Prop := ∀ j o, ops[j]? = some o → l j = true → ∀ e ∈ o.after, Region.binds .any e = true → l e.on = true
theorem upd_of {l : Nat → Bool} {j : Nat} (i : Nat) (h : l j = true) : upd l i j = true := by
  unfold upd
  split <;> simp [h]
/-- A region that draws: Inv is shown once for each operation. -/
theorem wp_region_inv {id : Nat} {a : Act} {w : World} (hm : P.follows .mixedOrders = true) (hlow : lowB ops = true) (Inv : Act → (Nat → Bool) → Act → World → Prop)
    (h0 : Inv a (fun _ => false) a w.drew)
    (hstep : ∀ i o, ops[i]? = some o → ∀ l a' w', l i = false → (∀ e ∈ o.after, Region.binds .any e = true → l e.on = true) → closedL ops l → Inv a l a' w' → wpOp P ops Q i (fun a' w' => Inv a (upd l i) a' w') a' w')
    (hend : ∀ l a' w', (∀ i, i < ops.size → l i = true) → Inv a l a' w' → Q .normal a' w') : (Code.region id ops true).wp P Q a w := by
  refine wp_region_any hm (wpAny_inv hlow (fun l a' w' => closedL ops l ∧ Inv a l a' w') (fun i o ho l a' w' hl hd hI => wpOp_mono (fun a2 w2 h => ⟨?_, h⟩) (hstep i o ho l a' w' hl hd hI.1 hI.2)) (fun l a' w' hl hI => hend l a' w' hl hI.2) _ _ a _ (by simp) ?_ ?_)
  · intro j oj hj hlj e he hb
    by_cases e1 : j = i
    · subst e1
      obtain rfl := Option.some.inj (ho.symm.trans hj)
      exact upd_of _ (hd e he hb)
    · exact upd_of _ (hI.1 j oj hj (by simpa [upd, e1] using hlj) e he hb)
  · exact Nat.le_trans (List.length_filter_le _ _) (by simp)
  · have e : (fun j => (Array.replicate ops.size false).getD j false) = fun _ => false := by
      funext j
      simp [Array.getD]
    rw [e]
    exact ⟨(fun j o _ h => by cases h), h0⟩
end
end Go.Proofs.Ytapaodagnpaekaa.Lib
