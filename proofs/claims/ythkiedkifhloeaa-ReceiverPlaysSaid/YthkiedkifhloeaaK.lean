/- The map of the receiver, as a list: keys ascending, each with its value. -/
import Derived.Test.YthkiedkifhloeaaF0
import Derived.Maps.OwnSet
import Derived.Lib.SlKeysI
namespace Go.Proofs.Ythkiedkifhloeaa.Lib
open Go.RowKit Go.Proofs.YthkiedkifhloeaaW.PrintWords Go.Proofs.YthkiedkifhloeaaW.PrintLast Go.Proofs.YthkiedkifhloeaaW.PrintMore
set_option linter.unusedVariables false
set_option linter.unusedSimpArgs false
/-- a value read as itself -/
def tokR (v : Value) : Option (DataW Value × List MemPlace) := some (.held v, [])
/-- a slice as it lies -/
abbrev Hd := Option Addr × Nat × Nat
def hv (h : Hd) : Value := .slice h.1 h.2.1 h.2.2
/-- the keys and their values, as a datum -/
def Dt (F : List (Int × Hd)) : DataW Value := .map (F.map fun x => (Lit.int .i64 x.1, .held (hv x.2)))
variable {α : Type}
/-- keys ascending -/
def Asc (F : List (Int × α)) : Prop := F.Pairwise (fun x y => x.1 < y.1)
def atF : List (Int × α) → Int → Option α
  | [], _ => none
  | x :: F, i => if x.1 = i then some x.2 else atF F i
theorem atF_cons (x : Int × α) (F : List (Int × α)) (i : Int) : atF (x :: F) i = if x.1 = i then some x.2 else atF F i := rfl
def insF (i : Int) (v : α) : List (Int × α) → List (Int × α)
  | [] => [(i, v)]
  | x :: F => if i < x.1 then (i, v) :: x :: F else x :: insF i v F
theorem same_i (a b : Int) : (Lit.int .i64 a).sameKey (Lit.int .i64 b) = decide (a = b) := by
  simp [Lit.sameKey]
theorem has_Dt : ∀ (F : List (Int × Hd)) (i : Int), Maps.has (Dt F) (.int .i64 i) = (atF F i).isSome
  | [], i => rfl
  | x :: F, i => by
    have ih := has_Dt F i
    unfold Dt at ih ⊢
    rw [Maps.has_eq] at ih ⊢
    rw [List.map_cons, List.any_cons, ih, same_i, atF_cons]
    by_cases h : x.1 = i
    · simp [h]
    · simp [h]
theorem at_Dt : ∀ (F : List (Int × Hd)) (i : Int) (z : DataW Value), (Dt F).atKey (.int .i64 i) z = (match atF F i with | some v => .held (hv v) | none => z)
  | [], i, z => rfl
  | x :: F, i, z => by
    have ih := at_Dt F i z
    have e : (Dt (x :: F)).atKey (.int .i64 i) z = if x.1 = i then .held (hv x.2) else (Dt F).atKey (.int .i64 i) z := by
      simp only [Dt, DataW.atKey, List.map_cons, List.find?_cons, same_i]
      by_cases h : x.1 = i
      · simp [h]
      · simp [h]
    rw [e, atF_cons]
    by_cases h : x.1 = i
    · simp [h]
    · rw [if_neg h, if_neg h, ih]
theorem size_Dt (F : List (Int × Hd)) : Maps.size (Dt F) = F.length := by
  unfold Dt
  rw [Maps.size_eq, List.length_map]
theorem keys_Dt (F : List (Int × Hd)) : intKeys (Dt F) = F.map Prod.fst := by
  simp [Dt, intKeys, Go.intOf]
theorem atF_mem : ∀ (F : List (Int × α)) (i : Int) (v : α), atF F i = some v → (i, v) ∈ F
  | x :: F, i, v, h => by
    rw [atF_cons] at h
    split at h
    · rename_i e
      obtain rfl := Option.some.inj h
      rw [← e]
      exact List.mem_cons_self
    · exact List.mem_cons_of_mem _ (atF_mem F i v h)
theorem atF_none : ∀ (F : List (Int × α)) (i : Int), atF F i = none → ∀ x ∈ F, x.1 ≠ i
  | x :: F, i, h, y, hy => by
    rw [atF_cons] at h
    split at h
    · cases h
    · rename_i e
      rcases List.mem_cons.1 hy with rfl | hy
      · exact e
      · exact atF_none F i h y hy
theorem filter_Dt (F : List (Int × Hd)) (i : Int) : ((F.map fun x => (Lit.int .i64 x.1, DataW.held (hv x.2))).filter fun p => !p.1.sameKey (Lit.int .i64 i)) = (F.filter fun x => x.1 ≠ i).map fun x => (Lit.int .i64 x.1, DataW.held (hv x.2)) := by
  rw [List.filter_map]
  congr 1
  refine List.filter_congr (fun x _ => ?_)
  simp [same_i]
theorem del_Dt (F : List (Int × Hd)) (i : Int) : (Dt F).del (.int .i64 i) = Dt (F.filter fun x => x.1 ≠ i) := by
  unfold Dt DataW.del
  exact congrArg DataW.map (filter_Dt F i)
theorem ins_Dt (i : Int) (v : Hd) : ∀ F : List (Int × Hd), DataW.insert (Lit.int .i64 i, DataW.held (hv v)) (F.map fun x => (Lit.int .i64 x.1, DataW.held (hv x.2))) = (insF i v F).map fun x => (Lit.int .i64 x.1, DataW.held (hv x.2))
  | [] => rfl
  | x :: F => by
    rw [List.map_cons]
    unfold DataW.insert insF
    have e : Lit.before (Lit.int .i64 i, DataW.held (hv v)).1 (Lit.int .i64 x.1, DataW.held (hv x.2)).1 = decide (i < x.1) := rfl
    rw [e]
    by_cases h : i < x.1
    · simp [h]
    · simp [h, ins_Dt i v F]
theorem put_Dt {F : List (Int × Hd)} {i : Int} (h : atF F i = none) (v : Hd) : (Dt F).put (.int .i64 i) (.held (hv v)) = Dt (insF i v F) := by
  unfold Dt DataW.put
  have hf : (F.filter fun x => x.1 ≠ i) = F := List.filter_eq_self.2 (fun x hx => by simpa using atF_none F i h x hx)
  refine congrArg DataW.map ?_
  rw [filter_Dt, hf, ins_Dt]
theorem insF_length (i : Int) (v : α) : ∀ F : List (Int × α), (insF i v F).length = F.length + 1
  | [] => rfl
  | x :: F => by
    unfold insF
    split
    · simp
    · simp [insF_length i v F]
theorem insF_mem (i : Int) (v : α) : ∀ (F : List (Int × α)) (y : Int × α), y ∈ insF i v F ↔ y = (i, v) ∨ y ∈ F
  | [], y => by simp [insF]
  | x :: F, y => by
    unfold insF
    split
    · simp
    · rw [List.mem_cons, insF_mem i v F y, List.mem_cons]
      constructor
      · rintro (h | h | h)
        · exact .inr (.inl h)
        · exact .inl h
        · exact .inr (.inr h)
      · rintro (h | h | h)
        · exact .inr (.inl h)
        · exact .inl h
        · exact .inr (.inr h)
theorem insF_asc {F : List (Int × α)} {i : Int} (h : Asc F) (hn : atF F i = none) (v : α) : Asc (insF i v F) := by
  induction F with
  | nil => exact List.pairwise_singleton _ _
  | cons x F ih =>
    have hx : x.1 ≠ i := atF_none _ _ hn x List.mem_cons_self
    have hn' : atF F i = none := by
      rw [atF_cons, if_neg hx] at hn
      exact hn
    obtain ⟨h1, h2⟩ := List.pairwise_cons.1 h
    unfold insF
    split
    · rename_i hlt
      refine List.pairwise_cons.2 ⟨fun y hy => ?_, h⟩
      rcases List.mem_cons.1 hy with rfl | hy
      · exact hlt
      · exact Int.lt_trans hlt (h1 y hy)
    · rename_i hlt
      refine List.pairwise_cons.2 ⟨fun y hy => ?_, ih h2 hn'⟩
      rcases (insF_mem i v F y).1 hy with rfl | hy
      · show x.1 < i
        omega
      · exact h1 y hy
/-- the least key struck -/
theorem del_head {x : Int × Hd} {F : List (Int × Hd)} (h : Asc (x :: F)) : (Dt (x :: F)).del (.int .i64 x.1) = Dt F := by
  rw [del_Dt]
  obtain ⟨h1, _⟩ := List.pairwise_cons.1 h
  rw [List.filter_cons, if_neg (by simp)]
  congr 1
  refine List.filter_eq_self.2 (fun y hy => ?_)
  have := h1 y hy
  simp
  omega
theorem own_size {P : Program} {k : TypeId} {R : Value → Option (DataW Value × List MemPlace)} {w : World} {b n : Nat} {D : DataW Value} (h : w.ownsMap P k R b n D) : w.ownsMap P k R b (Maps.size D) D := by
  obtain ⟨es, clock, hb, Ft, hs, hD⟩ := h
  refine ⟨es, clock, hb, Ft, ?_, hD⟩
  rw [hD, Maps.size_eq, length_sorted, List.length_map]
  simp
theorem merge_asc {F : List (Int × α)} (h : Asc F) {ss : List Int} (hp : ss.Perm (F.map Prod.fst)) : ss.mergeSort (fun x y => decide (x ≤ y)) = F.map Prod.fst := by
  have hs : (F.map Prod.fst).Pairwise (fun x y => decide (x ≤ y) = true) := by
    rw [List.pairwise_map]
    exact h.imp (fun hxy => decide_eq_true (Int.le_of_lt hxy))
  have h1 : (ss.mergeSort (fun x y => decide (x ≤ y))).Pairwise (fun x y => decide (x ≤ y) = true) := List.pairwise_mergeSort (fun a b c h1 h2 => by simp at *; omega) (fun a b => by simp; omega) ss
  refine List.Perm.eq_of_pairwise (le := fun x y => decide (x ≤ y) = true) (fun a b _ _ h1 h2 => by simp at h1 h2; omega) h1 hs ?_
  exact (List.mergeSort_perm ss _).trans hp
end Go.Proofs.Ythkiedkifhloeaa.Lib
