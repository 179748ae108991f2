/- append onto the row that a conversion of a string made (its mark lies behind its cells). -/
import Derived.Test.YtapaodagnpaekaaV3
import Derived.Deep.Upon
import Derived.Lib.FrozenHead
namespace Go.Proofs.Ytapaodagnpaekaa.Lib
open Go.RowKit Go.Proofs.YtapaodagnpaekaaW.PrintWords Go.Proofs.YtapaodagnpaekaaW.PrintLast Go.Proofs.YtapaodagnpaekaaW.PrintMore
set_option linter.unusedVariables false
set_option linter.unusedSimpArgs false
theorem run_storeCells_atM (P : Program) (g o : Nat) (t : TypeId) (fz : Nat × Nat) : ∀ (vs : List Value) (i : Nat) (cur : Array Value) (w : World), w.heap[g]? = some (.cells cur t fz) → cur.size ≤ fz.1 → o + i + vs.length ≤ cur.size → (∀ v ∈ vs, v.oneCell' = true) →
    (storeCells ⟨g, o, none⟩ vs i).run P w = .ok () (w.setRow g (cur.toList.take (o + i) ++ vs ++ cur.toList.drop (o + i + vs.length)).toArray)
  | [], i, cur, w, hg, _, _, _ => by
    simp only [storeCells, List.append_nil, List.length_nil, Nat.add_zero, List.take_append_drop, Array.toArray_toList]
    rw [setRow_self w g cur t fz hg]
    rfl
  | v :: rest, i, cur, w, hg, hfz, hl, h1 => by
    have hi : o + i < cur.size := by simp at hl; omega
    have hadd : (⟨g, o, none⟩ : Addr).add i = ⟨g, o + i, none⟩ := by unfold Addr.add; split <;> simp_all
    have hcell : w.cell? ⟨g, o + i, none⟩ = some cur[o + i] := by simp [World.cell?, hg, hi]
    have hfro : w.frozen? ⟨g, o + i, none⟩ = false := by
      obtain ⟨lo, hi'⟩ := fz
      simp only [World.frozen?, hg, Bool.and_eq_false_iff, decide_eq_false_iff_not]
      left
      simp only at hfz
      omega
    have hst : (store ((⟨g, o, none⟩ : Addr).add i) v).run P w = .ok () (w.setRow g (cur.setIfInBounds (o + i) v)) := by
      rw [hadd, run_store P w _ v _ (h1 v (by simp)), hcell]
      simp [hfro, setCell_eq_setRow w g (o + i) cur t fz v hg]
    have ih := run_storeCells_atM P g o t fz rest (i + 1) (cur.setIfInBounds (o + i) v) (w.setRow g (cur.setIfInBounds (o + i) v)) (setRow_heap w g cur _ t _ hg) (by simpa using hfz) (by simp at hl ⊢; omega) (fun x hx => h1 x (by simp [hx]))
    simp only [storeCells, Sem.run_bind, hst, Result.andThen_ok, ih, setRow_setRow]
    congr 3
    have e := list_seg_step cur.toList (o + i) v rest (by simp at hl ⊢; omega)
    simpa [Array.toList_setIfInBounds, Nat.add_assoc] using e
theorem C_of_row {w : World} {g n : Nat} {cur : Array Value} {fz : Nat × Nat} {xs : List Int} (hg : w.heap[g]? = some (.cells cur 5 fz)) (hl : xs.length = n) (hn : n ≤ 9223372036854775807) (ht : cur.toList.take n = nums .u8 xs) : Kd.C (Kd.int .u8) w (some ⟨g, 0, none⟩) n xs := by
  subst hl
  refine Kd.C_of_reads (d := (0 : Int)) ⟨rfl, hn, fun _ => ⟨_, rfl, fun j hj => ?_⟩⟩
  rw [add_plain]
  show w.cell? ⟨g, j, none⟩ = _
  have h1 : (nums .u8 xs)[j]? = some (.int .u8 (xs.getD j 0)) := by
    simp [nums, List.getElem?_map, List.getElem?_eq_getElem hj, List.getD_eq_getElem?_getD]
  rw [← ht, List.getElem?_take] at h1
  rw [if_pos hj] at h1
  unfold World.cell?
  rw [hg]
  simpa using h1
theorem app_mark {P : Program} {w : World} {base : Nat} {t ty : TypeId} (ht : P.underlying t = some (.slice 5)) (hinfo : (P.info? 5).map (fun i => (i.zero, i.size, i.bytes)) = some (some (.int .u8 0), 1, 1))
    {g n cap : Nat} {cur : Array Value} {fz : Nat × Nat} {xs ys : List Int} {A : Option Addr} {m c : Nat} (hg : w.heap[g]? = some (.cells cur 5 fz)) (hfz : cur.size ≤ fz.1) (hcap : cap = cur.size) (hl : xs.length = n) (htk : cur.toList.take n = nums .u8 xs) (hn : n ≤ cap)
    (HC : Kd.C (Kd.int .u8) w A m ys) (hs : n + m ≤ 140737488355328) (hb : base ≤ g) (hbw : base ≤ w.heap.size) :
    ∃ A1 c1 w1, (Builtin.append_ #[t, t] ty #[.slice (some ⟨g, 0, none⟩) n cap, .slice A m c]).run P w = .ok (.slice A1 (n + m) c1) w1 ∧ n + m ≤ c1 ∧ Kd.C (Kd.int .u8) w1 A1 (n + m) (xs ++ ys) ∧ Below base w w1 := by
  obtain ⟨i, hi, hz⟩ := Option.map_eq_some_iff.1 hinfo
  simp only [Prod.mk.injEq] at hz
  obtain ⟨hz0, hz1, hz2⟩ := hz
  have hml : ys.length = m := HC.1
  have hC0 := C_of_row hg hl (by omega) htk
  rcases Nat.eq_zero_or_pos m with h0 | hm
  · subst h0
    have hy : ys = [] := List.length_eq_zero_iff.1 hml
    subst hy
    have hsrc : Src P i.size t (.slice A 0 c) 0 [] w := by
      cases A with
      | none => exact Src.ofNil w ht c
      | some ad => exact Src.ofSlice w ht ad 0 c [] (by simp) (fun j u h => by simp at h) (fun u h => by simp at h)
    exact ⟨_, _, _, run_append_nothing w t t ty 5 i ht hi (some ⟨g, 0, none⟩) n cap hn _ hsrc, hn, by simpa using hC0, Below.refl _ _⟩
  · obtain ⟨ad, rfl, hcy⟩ := cells_of_C HC hm
    have hone : ∀ u ∈ nums .u8 ys, u.oneCell' = true := by
      intro u hu
      obtain ⟨x, _, rfl⟩ := List.mem_map.1 hu
      rfl
    have hnl : (nums .u8 ys).length = m := by simp [nums, hml]
    by_cases hroom : n + m ≤ cap
    · have hf := run_firstCells_some (P := P) w i.size m ad m c (nums .u8 ys) (by rw [hnl, hz1, Nat.mul_one]) hcy
      rw [hz1] at hf
      have hst := run_storeCells_atM P g n 5 fz (nums .u8 ys) 0 cur w hg hfz (by rw [hnl]; omega) hone
      simp only [Nat.add_zero] at hst
      refine ⟨some ⟨g, 0, none⟩, cap, w.setRow g (cur.toList.take n ++ nums .u8 ys ++ cur.toList.drop (n + (nums .u8 ys).length)).toArray, by simp [Builtin.append_, run_underlying ht, sizeOf, typeInfo, hi, Builtin.lenOf, hroom, hf, Addr.add_lit, hz1, hst], hroom, ?_, ?_⟩
      · refine C_of_row (setRow_heap w g cur _ 5 fz hg) (by rw [List.length_append, hl, hml]) (by omega) ?_
        simp only [List.toList_toArray]
        rw [htk, nums_append]
        exact List.take_left' (by rw [List.length_append, hnl]; simp [nums, hl])
      · exact ⟨rfl, rfl, rfl, by simp, fun k hk => setRow_other w g k _ (by omega)⟩
    · have hcx : ∀ j u, (nums .u8 xs)[j]? = some u → w.cell? (Addr.add ⟨g, 0, none⟩ j) = some u := by
        intro j u hj
        rw [add_plain]
        show w.cell? ⟨g, j, none⟩ = _
        rw [← htk, List.getElem?_take] at hj
        split at hj
        · unfold World.cell?
          rw [hg]
          simpa using hj
        · cases hj
      obtain ⟨v1, w1, hr, h2, h3⟩ := run_append_arg_grows (P := P) w t ty 5 i (.int .u8 0) 1 1 ht hi hz0 hz1 hz2 rfl (by decide) ⟨g, 0, none⟩ n cap (nums .u8 xs) (by simp [nums, hl]) hcx ad m c (nums .u8 ys) (by simp [nums, hml]) hcy (by omega) (by simp only [maxLen]; omega) (by omega)
      rw [← nums_append] at h2
      have hR : Kd.R (Kd.int .u8) 5 w1 w.heap.size (fun _ => True) v1 (xs ++ ys) := Kd.R_of_own (by
        have h4 : (xs ++ ys).length = n + m := by rw [List.length_append, hl, hml]
        rw [h4]
        exact h2) (fun _ _ => trivial)
      obtain ⟨A1, c1, rfl, hR⟩ := row_form (n := n + m) (by rw [List.length_append, hl, hml]) hR
      have h5 := Kd.R_reads' hR
      refine ⟨A1, c1, w1, hr, h5.2.1, by have h6 := h5.2.2; rw [List.length_append, hl, hml] at h6; exact h6, ?_⟩
      exact ⟨h3.os, h3.tape, h3.output, h3.size, fun k hk => h3.block k (by omega) (by simp)⟩
theorem wpList_app_mark {P : Program} {w : World} {ops : Array Oper} {rest : List Oper} {o : Oper} {a : Act} {Q : Exit → Act → World → Prop} (hgd : o.guard = none) (s x : Operand) (t : TypeId)
    (ho : o.op = .call { callee := .builtin .append, args := #[s, x], argTypes := #[t, t] }) (base : Nat) (ht : P.underlying t = some (.slice 5)) (hinfo : (P.info? 5).map (fun i => (i.zero, i.size, i.bytes)) = some (some (.int .u8 0), 1, 1))
    {g n cap : Nat} {cur : Array Value} {fz : Nat × Nat} {xs ys : List Int} {A : Option Addr} {m c : Nat} (hs : a.eval s = .slice (some ⟨g, 0, none⟩) n cap) (hx : a.eval x = .slice A m c) (hg : w.heap[g]? = some (.cells cur 5 fz)) (hfz : cur.size ≤ fz.1) (hcap : cap = cur.size) (hl : xs.length = n) (htk : cur.toList.take n = nums .u8 xs) (hn : n ≤ cap)
    (HC : Kd.C (Kd.int .u8) w A m ys) (hsz : n + m ≤ 140737488355328) (hb : base ≤ g) (hbw : base ≤ w.heap.size)
    (h : ∀ A1 c1 w1, n + m ≤ c1 → Kd.C (Kd.int .u8) w1 A1 (n + m) (xs ++ ys) → Below base w w1 → wpList P ops Q rest (a.put o.dst (.slice A1 (n + m) c1)) w1) : wpList P ops Q (o :: rest) a w := by
  refine wpList_plain hgd fun K hK => ?_
  obtain ⟨A1, c1, w1, hr, h2, h3, h4⟩ := app_mark (P := P) (t := t) (ty := o.type) ht hinfo hg hfz hcap hl htk hn HC hsz hb hbw
  unfold Oper.wp execOp
  simp only [ho, resolve, invoke, builtin, Sem.run_bind, Sem.run_pure, Result.andThen_ok, List.map_toArray, List.map_cons, List.map_nil, hs, hx]
  rw [hr]
  exact hK _ _ (h A1 c1 w1 h2 h3 h4)
end Go.Proofs.Ytapaodagnpaekaa.Lib
