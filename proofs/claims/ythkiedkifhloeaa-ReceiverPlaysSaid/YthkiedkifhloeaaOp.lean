/- Arguments that read as data, opened: slices of slices, strings, numbers, as the print's kinds. -/
import Derived.SizedLaws
import Derived.ChangeSlices
import Derived.ChangeArms
import Derived.DataReads
import Derived.OpenShut
import Derived.Test.YthkiedkifhloeaaWWords
namespace Go.Proofs.Ythkiedkifhloeaa.Lib
open Go.ChangeShapes Go.WideShapes Go.Proofs.YthkiedkifhloeaaW.PrintWords

/-- Cells that read as data of type t hold a Lean value of kind d, of which ok is known. -/
def Opens (P : Program) {α : Type} (t : TypeId) (d : Kd α) (ok : α → Prop) : Prop :=
  ∀ {H : Type} (enc : TypeId × Value → H) (w : World) (base : Nat) (spare : Nat → Bool) (held : Bool) (fuel : Nat) (cs : List Value) (x : DataW H × List MemPlace),
    DataW.trod enc P w base spare held fuel t cs = some x → (∀ n ∈ x.1.weights P t, n ≤ reachBytes) → ∃ v : α, d.K w v cs ∧ ok v
section
variable {P : Program} {α β : Type} {t e : TypeId} {d : Kd α} {ok : α → Prop}
theorem opens_int {k : IntKind} (ht : P.underlying t = some (.int k)) : Opens P t (Kd.int k) (fun x => (Lit.int k x).wf = true) := by
  intro H enc w base spare held fuel cs x h _
  obtain ⟨n, rfl, rfl, hw⟩ := DataW.trod_int ht h
  exact ⟨n, rfl, hw⟩
theorem opens_bool (ht : P.underlying t = some .bool) : Opens P t Kd.bool (fun _ => True) := by
  intro H enc w base spare held fuel cs x h _
  obtain ⟨n, rfl, rfl⟩ := DataW.trod_bool ht h
  exact ⟨n, rfl, trivial⟩
theorem opens_string (ht : P.underlying t = some .string) : Opens P t Kd.string (fun s => s.size ≤ 140737488351232) := by
  intro H enc w base spare held fuel cs x h hz
  obtain ⟨s, rfl, rfl, hw⟩ := DataW.trod_string ht h
  exact ⟨s, rfl, by simpa [DataW.weights, reachBytes] using hz⟩
theorem weights_all {H : Type} {l : List (DataW H)} {y : DataW H} (h : y ∈ l) {n : Nat} (hn : n ∈ y.weights P e) : n ∈ DataW.weightsAll P e l := by
  induction l with
  | nil => simp at h
  | cons a l ih =>
    simp only [DataW.weightsAll, List.mem_append]
    rcases List.mem_cons.1 h with rfl | h
    · exact .inl hn
    · exact .inr (ih h)
theorem list_of_each {p : Nat → α → Prop} : ∀ {n : Nat}, (∀ i, i < n → ∃ v, p i v) → ∃ xs : List α, xs.length = n ∧ ∀ i (hi : i < xs.length), p i xs[i]
  | 0, _ => ⟨[], rfl, fun i hi => absurd hi (Nat.not_lt_zero _)⟩
  | m + 1, each => by
    obtain ⟨xs, hx, hxs⟩ := list_of_each (n := m) (fun i hi => each i (by omega))
    obtain ⟨v, hv⟩ := each m (by omega)
    refine ⟨xs ++ [v], by simp [hx], fun i hi => ?_⟩
    simp only [List.length_append, List.length_singleton] at hi
    rcases Nat.lt_or_ge i xs.length with h1 | h1
    · simp only [List.getElem_append_left h1]; exact hxs i h1
    · obtain rfl : i = xs.length := by omega
      simp only [List.getElem_append_right (Nat.le_refl _), Nat.sub_self, List.getElem_singleton]
      rw [hx]; exact hv
theorem add_add_ (a : Addr) (i j : Nat) : (a.add i).add j = a.add (i + j) := by
  unfold Addr.add
  by_cases hi : i = 0 <;> by_cases hj : j = 0 <;> simp [hi, hj, Nat.add_assoc]
theorem opens_slice {q : Nat} {B : Nat} (ht : P.underlying t = some (.slice e)) (hc : P.cellsOf e = d.sz) (hB : P.bytesOf e = B) (ho : Opens P e d ok) :
    Opens P t (Kd.slice q d) (fun xs => xs.length ≤ 9223372036854775807 ∧ xs.length * B ≤ 140737488351232 ∧ ∀ x ∈ xs, ok x) := by
  intro H enc w base spare held fuel cs x h hz
  rcases DataW.trod_slice ht h with ⟨rfl, rfl⟩ | ⟨a, len, cap, elems, rest, n, _, rfl, rfl, hb, hl, hm, hlen, hel, _, _⟩
  · exact ⟨[], ⟨none, 0, rfl, Nat.le_refl _, Kd.C_nil _ _⟩, by simp⟩
  · have each : ∀ i, i < len → ∃ v : α, ok v ∧ ∃ c, w.cells? base (a.add (i * P.cellsOf e)) (P.cellsOf e) = some c ∧ d.K w v c := by
      intro i hi
      have h1 := hel i hi
      have hi' : i < elems.length := by omega
      rw [List.getElem?_eq_getElem hi', Option.bind_eq_some_iff] at h1
      obtain ⟨c, hc1, hc2⟩ := h1
      obtain ⟨v, hv, hk⟩ := ho enc w base spare held n c _ hc2 (fun m hm => hz m (by
        simp only [DataW.weights, ht, List.mem_cons, List.mem_append]
        exact .inr (.inl (weights_all (List.mem_map_of_mem (List.getElem_mem hi')) hm))))
      exact ⟨v, hk, c, hc1, hv⟩
    obtain ⟨xs, hxl, hxs⟩ := list_of_each each
    have hw : (elems.length + rest.length) * P.bytesOf e ≤ reachBytes := hz _ (by simp [DataW.weights, ht])
    rw [hB] at hw
    have hmx : len ≤ 9223372036854775807 := by unfold maxLen at hm; omega
    refine ⟨xs, ⟨some a, cap, by rw [hxl], by omega, rfl, by omega, fun _ => ⟨a, rfl, fun j p hj => ?_⟩⟩, by omega, ?_, fun x hx => ?_⟩
    · obtain ⟨hj', rfl⟩ := List.getElem?_eq_some_iff.1 hj
      obtain ⟨_, c, hc1, hc2⟩ := hxs j hj'
      obtain ⟨hlc, _, hcell⟩ := World.cells?_some hc1
      rw [hc] at hlc hcell
      refine ⟨c, d.K_len hc2, hc2, fun i u hu => ?_⟩
      have hi := (List.getElem?_eq_some_iff.1 hu).1
      rw [d.K_len hc2] at hi
      rw [← add_add_, ← hu]
      rw [hc] at hc1
      exact hcell i hi
    · have : xs.length * B ≤ (elems.length + rest.length) * B := Nat.mul_le_mul_right _ (by omega)
      simp [reachBytes] at hw
      omega
    · obtain ⟨i, hi, rfl⟩ := List.mem_iff_getElem.1 hx
      exact (hxs i hi).1
theorem weights_each {H : Type} {ts : List TypeId} {l : List (DataW H)} {i : Nat} {u : TypeId} {y : DataW H} (ht : ts[i]? = some u) (hy : l[i]? = some y) {n : Nat} (hn : n ∈ y.weights P u) : n ∈ DataW.weightsEach P ts l := by
  induction ts generalizing l i with
  | nil => simp at ht
  | cons a ts ih =>
    cases l with
    | nil => simp at hy
    | cons b l =>
      simp only [DataW.weightsEach, List.mem_append]
      cases i with
      | zero =>
        simp only [List.getElem?_cons_zero, Option.some.injEq] at ht hy
        subst ht hy
        exact .inl hn
      | succ i => exact .inr (ih (by simpa using ht) (by simpa using hy))
/-- an array of two -/
theorem opens_array2 (ht : P.underlying t = some (.array 2 e)) (hc : P.cellsOf e = d.sz) (hct : P.cellsOf t = d.sz + d.sz) (ho : Opens P e d ok) : Opens P t (Kd.pair d d) (fun x => ok x.1 ∧ ok x.2) := by
  intro H enc w base spare held fuel cs x h hz
  obtain ⟨xs, m, _, rfl, hl, hlen, hf⟩ := DataW.trod_array ht h
  match xs, hlen with
  | [y0, y1], _ =>
    have h0 := hf 0 (by omega)
    have h1 := hf 1 (by omega)
    rw [hc] at h0 h1
    simp only [Nat.zero_mul, Nat.one_mul, List.drop_zero, List.getElem?_cons_zero, List.getElem?_cons_succ] at h0 h1
    obtain ⟨v0, k0, o0⟩ := ho enc w base spare held m _ _ h0 (fun n hn => hz n (by simp only [DataW.weights, ht, List.map_cons, DataW.weightsAll, List.mem_append]; exact .inl hn))
    obtain ⟨v1, k1, o1⟩ := ho enc w base spare held m _ _ h1 (fun n hn => hz n (by simp only [DataW.weights, ht, List.map_cons, DataW.weightsAll, List.mem_append]; exact .inr (.inl hn)))
    rw [List.take_of_length_le (by rw [List.length_drop, hl, hct]; omega)] at k1
    exact ⟨(v0, v1), ⟨_, _, (List.take_append_drop d.sz cs).symm, k0, k1⟩, o0, o1⟩
/-- a struct of 2 fields -/
theorem opens_struct2 {γ1 : Type} {d1 : Kd γ1} {ok1 : γ1 → Prop} {f0 f1 : Field} (ht : P.underlying t = some (.struct #[f0, f1])) (hct : P.cellsOf t = d.sz + d1.sz)
    (e0 : f0.offset = 0) (e1 : f1.offset = d.sz) (c0 : P.cellsOf f0.type = d.sz) (c1 : P.cellsOf f1.type = d1.sz)
    (ho0 : Opens P f0.type d ok) (ho1 : Opens P f1.type d1 ok1) : Opens P t (Kd.pair d d1) (fun x => ok x.1 ∧ ok1 x.2) := by
  intro H enc w base spare held fuel cs x h hz
  obtain ⟨xs, m, _, rfl, hl, hlen, hf⟩ := DataW.trod_struct ht h
  match xs, hlen with
  | [y0, y1], _ =>
    have h0 := hf 0 f0 rfl
    have h1 := hf 1 f1 rfl
    rw [e0, c0] at h0
    rw [e1, c1] at h1
    simp only [List.drop_zero, List.getElem?_cons_zero, List.getElem?_cons_succ] at h0 h1
    have hw : ∀ (i : Nat) (f : Field) (y : DataW H × List MemPlace), #[f0, f1][i]? = some f → [y0, y1][i]? = some y → ∀ n ∈ y.1.weights P f.type, n ≤ reachBytes := fun i f y hf' hy n hn => hz n (by
      simp only [DataW.weights, ht]
      exact weights_each (i := i) (by rw [List.getElem?_map]; rw [← Array.getElem?_toList] at hf'; rw [hf']; rfl) (by rw [List.getElem?_map, hy]; rfl) hn)
    obtain ⟨v0, k0, o0⟩ := ho0 enc w base spare held m _ _ h0 (hw 0 f0 y0 rfl rfl)
    obtain ⟨v1, k1, o1⟩ := ho1 enc w base spare held m _ _ h1 (hw 1 f1 y1 rfl rfl)
    rw [List.take_of_length_le (by rw [List.length_drop, hl, hct]; omega)] at k1
    refine ⟨(v0, v1), ?_, o0, o1⟩
    refine ⟨_, _, (List.take_append_drop d.sz cs).symm, k0, ?_⟩
    exact k1
/-- a struct of 3 fields -/
theorem opens_struct3 {γ1 : Type} {γ2 : Type} {d1 : Kd γ1} {ok1 : γ1 → Prop} {d2 : Kd γ2} {ok2 : γ2 → Prop} {f0 f1 f2 : Field} (ht : P.underlying t = some (.struct #[f0, f1, f2])) (hct : P.cellsOf t = d.sz + (d1.sz + d2.sz))
    (e0 : f0.offset = 0) (e1 : f1.offset = d.sz) (e2 : f2.offset = d.sz + d1.sz) (c0 : P.cellsOf f0.type = d.sz) (c1 : P.cellsOf f1.type = d1.sz) (c2 : P.cellsOf f2.type = d2.sz)
    (ho0 : Opens P f0.type d ok) (ho1 : Opens P f1.type d1 ok1) (ho2 : Opens P f2.type d2 ok2) : Opens P t (Kd.pair d (Kd.pair d1 d2)) (fun x => ok x.1 ∧ ok1 x.2.1 ∧ ok2 x.2.2) := by
  intro H enc w base spare held fuel cs x h hz
  obtain ⟨xs, m, _, rfl, hl, hlen, hf⟩ := DataW.trod_struct ht h
  match xs, hlen with
  | [y0, y1, y2], _ =>
    have h0 := hf 0 f0 rfl
    have h1 := hf 1 f1 rfl
    have h2 := hf 2 f2 rfl
    rw [e0, c0] at h0
    rw [e1, c1] at h1
    rw [e2, c2] at h2
    simp only [List.drop_zero, List.getElem?_cons_zero, List.getElem?_cons_succ] at h0 h1 h2
    have hw : ∀ (i : Nat) (f : Field) (y : DataW H × List MemPlace), #[f0, f1, f2][i]? = some f → [y0, y1, y2][i]? = some y → ∀ n ∈ y.1.weights P f.type, n ≤ reachBytes := fun i f y hf' hy n hn => hz n (by
      simp only [DataW.weights, ht]
      exact weights_each (i := i) (by rw [List.getElem?_map]; rw [← Array.getElem?_toList] at hf'; rw [hf']; rfl) (by rw [List.getElem?_map, hy]; rfl) hn)
    obtain ⟨v0, k0, o0⟩ := ho0 enc w base spare held m _ _ h0 (hw 0 f0 y0 rfl rfl)
    obtain ⟨v1, k1, o1⟩ := ho1 enc w base spare held m _ _ h1 (hw 1 f1 y1 rfl rfl)
    obtain ⟨v2, k2, o2⟩ := ho2 enc w base spare held m _ _ h2 (hw 2 f2 y2 rfl rfl)
    rw [List.take_of_length_le (by rw [List.length_drop, hl, hct]; omega)] at k2
    refine ⟨(v0, v1, v2), ?_, o0, o1, o2⟩
    refine ⟨_, _, (List.take_append_drop d.sz cs).symm, k0, ?_⟩
    refine ⟨_, _, (List.take_append_drop d1.sz _).symm, k1, ?_⟩
    rw [List.drop_drop]
    exact k2
/-- a struct of 4 fields -/
theorem opens_struct4 {γ1 : Type} {γ2 : Type} {γ3 : Type} {d1 : Kd γ1} {ok1 : γ1 → Prop} {d2 : Kd γ2} {ok2 : γ2 → Prop} {d3 : Kd γ3} {ok3 : γ3 → Prop} {f0 f1 f2 f3 : Field} (ht : P.underlying t = some (.struct #[f0, f1, f2, f3])) (hct : P.cellsOf t = d.sz + (d1.sz + (d2.sz + d3.sz)))
    (e0 : f0.offset = 0) (e1 : f1.offset = d.sz) (e2 : f2.offset = d.sz + d1.sz) (e3 : f3.offset = d.sz + d1.sz + d2.sz) (c0 : P.cellsOf f0.type = d.sz) (c1 : P.cellsOf f1.type = d1.sz) (c2 : P.cellsOf f2.type = d2.sz) (c3 : P.cellsOf f3.type = d3.sz)
    (ho0 : Opens P f0.type d ok) (ho1 : Opens P f1.type d1 ok1) (ho2 : Opens P f2.type d2 ok2) (ho3 : Opens P f3.type d3 ok3) : Opens P t (Kd.pair d (Kd.pair d1 (Kd.pair d2 d3))) (fun x => ok x.1 ∧ ok1 x.2.1 ∧ ok2 x.2.2.1 ∧ ok3 x.2.2.2) := by
  intro H enc w base spare held fuel cs x h hz
  obtain ⟨xs, m, _, rfl, hl, hlen, hf⟩ := DataW.trod_struct ht h
  match xs, hlen with
  | [y0, y1, y2, y3], _ =>
    have h0 := hf 0 f0 rfl
    have h1 := hf 1 f1 rfl
    have h2 := hf 2 f2 rfl
    have h3 := hf 3 f3 rfl
    rw [e0, c0] at h0
    rw [e1, c1] at h1
    rw [e2, c2] at h2
    rw [e3, c3] at h3
    simp only [List.drop_zero, List.getElem?_cons_zero, List.getElem?_cons_succ] at h0 h1 h2 h3
    have hw : ∀ (i : Nat) (f : Field) (y : DataW H × List MemPlace), #[f0, f1, f2, f3][i]? = some f → [y0, y1, y2, y3][i]? = some y → ∀ n ∈ y.1.weights P f.type, n ≤ reachBytes := fun i f y hf' hy n hn => hz n (by
      simp only [DataW.weights, ht]
      exact weights_each (i := i) (by rw [List.getElem?_map]; rw [← Array.getElem?_toList] at hf'; rw [hf']; rfl) (by rw [List.getElem?_map, hy]; rfl) hn)
    obtain ⟨v0, k0, o0⟩ := ho0 enc w base spare held m _ _ h0 (hw 0 f0 y0 rfl rfl)
    obtain ⟨v1, k1, o1⟩ := ho1 enc w base spare held m _ _ h1 (hw 1 f1 y1 rfl rfl)
    obtain ⟨v2, k2, o2⟩ := ho2 enc w base spare held m _ _ h2 (hw 2 f2 y2 rfl rfl)
    obtain ⟨v3, k3, o3⟩ := ho3 enc w base spare held m _ _ h3 (hw 3 f3 y3 rfl rfl)
    rw [List.take_of_length_le (by rw [List.length_drop, hl, hct]; omega)] at k3
    refine ⟨(v0, v1, v2, v3), ?_, o0, o1, o2, o3⟩
    refine ⟨_, _, (List.take_append_drop d.sz cs).symm, k0, ?_⟩
    refine ⟨_, _, (List.take_append_drop d1.sz _).symm, k1, ?_⟩
    rw [List.drop_drop]
    refine ⟨_, _, (List.take_append_drop d2.sz _).symm, (by (try rw [List.drop_drop]); exact k2), ?_⟩
    rw [List.drop_drop]
    exact k3
theorem opens_iso {γ : Type} (h : Opens P t d ok) (f : γ → α) (g : α → γ) (hfg : ∀ a, f (g a) = a) : Opens P t (Kd.iso d f) (fun b => ok (f b)) := by
  intro H enc w base spare held fuel cs x hx hz
  obtain ⟨v, hv, hk⟩ := h enc w base spare held fuel cs x hx hz
  exact ⟨g v, by show d.K w (f (g v)) cs; rw [hfg]; exact hv, by show ok (f (g v)); rw [hfg]; exact hk⟩
theorem open_agg3 {fs : Array Field} (hu : P.underlying t = some (.struct fs)) (hc3 : P.cellsOf t = 3) {H : Type} {enc : TypeId × Value → H} {W : World} {base : Nat} {r : Reach} {b0 : Nat} {spare : Nat → Bool} {held : Bool} {v : Value} {dd : DataW H} {ps : List MemPlace} {ts : List TypeId} {ds : List (DataW H)} {j : Nat}
    (ho : Opens P t d ok) (hok : Value.okWide P W r b0 t v) (hsz : (DataW.weightsEach P ts ds).all (· ≤ reachBytes) = true) (ht : ts[j]? = some t) (hd : ds[j]? = some dd)
    (h : DataW.Trod enc P W base spare held t v dd ps) : ∃ c0 c1 c2, v = .agg #[c0, c1, c2] ∧ ∃ x, d.K W x [c0, c1, c2] ∧ ok x := by
  obtain ⟨cs, rfl, hs⟩ := okWide_struct hu hok
  rw [hc3] at hs
  obtain ⟨cs⟩ := cs
  match cs, hs with
  | [c0, c1, c2], _ =>
    obtain ⟨fuel, hf⟩ := h
    obtain ⟨x, hK, hk⟩ := ho enc W base spare held fuel _ _ hf (fun n hn => by
      have := List.all_eq_true.1 hsz _ (DataW.weights_mem_each ht hd n hn)
      simpa using this)
    exact ⟨c0, c1, c2, rfl, x, hK, hk⟩
theorem open_row {H : Type} {enc : TypeId × Value → H} {W : World} {base : Nat} {spare : Nat → Bool} {held : Bool} {a : Option Addr} {len cap : Nat} {dd : DataW H} {ps : List MemPlace} {ts : List TypeId} {ds : List (DataW H)} {j q : Nat} {ok : List α → Prop}
    (ho : Opens P t (Kd.slice q d) ok) (hsz : (DataW.weightsEach P ts ds).all (· ≤ reachBytes) = true) (ht : ts[j]? = some t) (hd : ds[j]? = some dd)
    (h : DataW.Trod enc P W base spare held t (.slice a len cap) dd ps) : ∃ l : List α, len = l.length ∧ l.length ≤ cap ∧ d.C W a l.length l ∧ ok l := by
  obtain ⟨fuel, hf⟩ := h
  obtain ⟨l, ⟨A, c, hcs, hl, hC⟩, hk⟩ := ho enc W base spare held fuel _ _ hf (fun n hn => by
    have := List.all_eq_true.1 hsz _ (DataW.weights_mem_each ht hd n hn)
    simpa using this)
  simp [Value.cells] at hcs
  obtain ⟨rfl, rfl, rfl⟩ := hcs
  exact ⟨l, rfl, hl, hC, hk⟩
end
end Go.Proofs.Ythkiedkifhloeaa.Lib
