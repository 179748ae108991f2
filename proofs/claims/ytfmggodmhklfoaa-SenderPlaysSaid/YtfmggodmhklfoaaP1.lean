/- the sender's state: what an ack does; what stays true. -/
import Derived.Test.YtfmggodmhklfoaaP0
namespace Go.Proofs.Ytfmggodmhklfoaa.Lib
open Go.RowKit Go.Shelf Go.Proofs.YtfmggodmhklfoaaW.PrintWords Go.Proofs.YtfmggodmhklfoaaW.PrintLast Go.Proofs.YtfmggodmhklfoaaW.PrintMore
set_option linter.unusedVariables false
set_option linter.unusedSimpArgs false
theorem dropA_spec : ∀ (bs : Int) (l : List S54), ∃ d : Nat, d ≤ l.length ∧ dropA bs l = (bs + d, l.drop d) ∧ (∀ j, j < d → (l.getD j z54).f0 = true) ∧ (l.getD d z54).f0 = false
  | bs, [] => ⟨0, Nat.le_refl _, by simp [dropA], fun j h => absurd h (Nat.not_lt_zero _), rfl⟩
  | bs, x :: xs => by
    unfold dropA
    by_cases hx : x.f0 = true
    · obtain ⟨d, h1, h2, h3, h4⟩ := dropA_spec (bs + 1) xs
      rw [if_pos hx]
      refine ⟨d + 1, by simpa using h1, ?_, ?_, by simpa using h4⟩
      · rw [h2]
        simp only [List.drop_succ_cons, Prod.mk.injEq, and_true]
        push_cast
        omega
      · intro j hj
        cases j with
        | zero => simpa using hx
        | succ j => simpa using h3 j (by omega)
    · rw [if_neg hx]
      exact ⟨0, Nat.zero_le _, by simp, fun j h => absurd h (Nat.not_lt_zero _), by simpa using hx⟩
theorem getD_drop_S (l : List S54) (d j : Nat) : (l.drop d).getD j z54 = l.getD (d + j) z54 := by
  rw [List.getD_eq_getElem?_getD, List.getElem?_drop, List.getD_eq_getElem?_getD]
/-- how many are acked from there on -/
def ackedFrom (l : List S54) (j : Nat) : Nat := ((l.drop j).filter (·.f0)).length
theorem hurry_count (nw : Int) : ∀ l : List S54, (hurry nw l).2 = (l.filter (·.f0)).length
  | [] => rfl
  | x :: xs => by
    have ih := hurry_count nw xs
    unfold hurry
    by_cases hx : x.f0 = true
    · rw [if_pos hx, List.filter_cons_of_pos hx, ih]
      rfl
    · rw [if_neg hx, List.filter_cons_of_neg hx]
      split
      · exact ih
      · exact ih
theorem hurry_item (nw : Int) : ∀ (l : List S54) (j : Nat), (hurry nw l).1.getD j z54 = if j < l.length ∧ (l.getD j z54).f0 = false ∧ (l.getD j z54).f1 = false ∧ 3 ≤ ackedFrom l (j + 1) then ⟨(l.getD j z54).f0, true, (l.getD j z54).f2, nw⟩ else l.getD j z54
  | [], j => by simp [hurry]
  | x :: xs, 0 => by
    have hc := hurry_count nw xs
    unfold hurry
    have ha : ackedFrom (x :: xs) (0 + 1) = (xs.filter (·.f0)).length := by simp [ackedFrom]
    rw [ha, ← hc]
    by_cases hx : x.f0 = true
    · rw [if_pos hx]
      simp [hx]
    · rw [if_neg hx]
      have hx' : x.f0 = false := by simpa using hx
      by_cases h3 : 3 ≤ (hurry nw xs).2 ∧ x.f1 = false
      · rw [if_pos h3]
        simp [hx', h3]
      · rw [if_neg h3]
        simp only [List.getD_cons_zero]
        rw [if_neg (fun h => h3 ⟨h.2.2.2, h.2.2.1⟩)]
  | x :: xs, j + 1 => by
    have ih := hurry_item nw xs j
    have e : (hurry nw (x :: xs)).1.getD (j + 1) z54 = (hurry nw xs).1.getD j z54 := by
      rw [hurry]
      split
      · rfl
      · split
        · rfl
        · rfl
    rw [e, ih]
    have ea : ackedFrom (x :: xs) (j + 1 + 1) = ackedFrom xs (j + 1) := rfl
    simp only [List.getD_cons_succ, ea]
    by_cases hc : j < xs.length ∧ (xs.getD j z54).f0 = false ∧ (xs.getD j z54).f1 = false ∧ 3 ≤ ackedFrom xs (j + 1)
    · rw [if_pos hc, if_pos ⟨by simpa using hc.1, hc.2⟩]
    · rw [if_neg hc, if_neg (fun h => hc ⟨by simpa using h.1, h.2⟩)]
theorem markL_item (bs : Int) (its : List S54) (a b : Int) (j : Nat) : (markL bs its a b).getD j z54 = if j < its.length ∧ a ≤ bs + j ∧ bs + j < b then { its.getD j z54 with f0 := true } else its.getD j z54 := by
  rw [List.getD_eq_getElem?_getD, markL, List.getElem?_mapIdx, List.getD_eq_getElem?_getD]
  by_cases h : j < its.length
  · rw [List.getElem?_eq_getElem h]
    simp only [Option.map_some, Option.getD_some, h, true_and]
  · rw [List.getElem?_eq_none (by omega)]
    simp [h]
/-- is the item told? -/
def toldBy (rs : List (Int × Int)) (x : Int) : Bool := rs.any fun r => decide (r.1 ≤ x) && decide (x < r.2)
theorem markAll_item (bs : Int) : ∀ (rs : List (Int × Int)) (its : List S54) (j : Nat), (markAll bs its rs).getD j z54 = if j < its.length ∧ toldBy rs (bs + j) = true then { its.getD j z54 with f0 := true } else its.getD j z54
  | [], its, j => by simp [markAll, toldBy]
  | r :: rs, its, j => by
    have ih := markAll_item bs rs (markL bs its r.1 r.2) j
    have e : markAll bs its (r :: rs) = markAll bs (markL bs its r.1 r.2) rs := rfl
    rw [e, ih, markL_length, markL_item]
    unfold toldBy
    rw [List.any_cons]
    by_cases hj : j < its.length
    · by_cases h1 : r.1 ≤ bs + j ∧ bs + j < r.2
      · simp [hj, h1]
      · have : (decide (r.1 ≤ bs + j) && decide (bs + j < r.2)) = false := by
          rw [Bool.and_eq_false_iff]
          simp only [decide_eq_false_iff_not]
          omega
        rw [this, Bool.false_or]
        simp [hj, h1]
    · simp [hj]
/-- an ack -/
def ackL (bs nw : Int) (its : List S54) (next : Int) (rs : List (Int × Int)) : Int × List S54 :=
  ((dropA bs (markAll bs (markL bs its 0 next) rs)).1, (hurry nw (dropA bs (markAll bs (markL bs its 0 next) rs)).2).1)
/-- what is always true of the state -/
structure Good (c : Cfg) (bs nw : Int) (its : List S54) : Prop where
  b0 : 0 ≤ bs
  fit : bs + its.length ≤ c.n
  win : (its.length : Int) ≤ c.wd
  n0 : 0 ≤ nw
  gap : ∀ j, 0 ≤ (its.getD j z54).f2 ∧ (its.getD j z54).f2 ≤ c.ms
  due : ∀ j, (its.getD j z54).f3 ≤ nw + c.ms
  head : (its.getD 0 z54).f0 = false
theorem Good.new {n wd fs ms : Int} (h : CfgOk n wd fs ms) : Good ⟨n, wd, fs, ms⟩ 0 0 [] := by
  obtain ⟨h1, h2, h3, h4, h5, h6, h7⟩ := h
  exact ⟨by simp, by simpa using h1, by simp; omega, by simp, fun j => by simp [z54]; omega, fun j => by simp [z54]; omega, rfl⟩
theorem Good.winL {c : Cfg} {bs nw : Int} {its : List S54} (h : Good c bs nw its) : (winL c bs its : Int) = mn c.wd (c.n - bs) ∧ bs + winL c bs its ≤ c.n ∧ (Lib.winL c bs its : Int) ≤ c.wd ∧ its.length ≤ Lib.winL c bs its := by
  obtain ⟨h1, h2, h3, h4, h5, h6, h7⟩ := h
  unfold Lib.winL mn
  split <;> omega
theorem Good.tick {c : Cfg} {bs nw : Int} {its : List S54} (h : Good c bs nw its) (hc : CfgOk c.n c.wd c.fs c.ms) : Good c bs (nw + 1) (tickL c bs nw its).1 := by
  have hw := h.winL
  obtain ⟨c1, c2, c3, c4, c5, c6, c7⟩ := hc
  have hn := h.n0
  refine ⟨h.b0, by rw [tick_length]; omega, by rw [tick_length]; omega, by omega, fun j => ?_, fun j => ?_, ?_⟩
  · rw [tick_item]
    have := h.gap j
    split
    · split
      · simp only [sendS, mn]
        split <;> omega
      · exact this
    · split
      · show 0 ≤ c.fs ∧ c.fs ≤ c.ms
        omega
      · simp [z54]; omega
  · rw [tick_item]
    have := h.gap j
    have := h.due j
    split
    · split
      · simp only [sendS, mn]
        split <;> omega
      · omega
    · split
      · show nw + 1 + c.fs ≤ _
        omega
      · simp [z54]; omega
  · rw [tick_item]
    have := h.head
    split
    · split
      · exact this
      · exact this
    · split
      · rfl
      · rfl
theorem ack_spec (bs nw : Int) (its : List S54) (next : Int) (rs : List (Int × Int)) : ∃ d : Nat, d ≤ its.length ∧ (ackL bs nw its next rs).1 = bs + d ∧ (ackL bs nw its next rs).2.length = its.length - d ∧
    (∀ j, j < d → ((markAll bs (markL bs its 0 next) rs).getD j z54).f0 = true) ∧ (((ackL bs nw its next rs).2).getD 0 z54).f0 = false ∧
    ∀ j, (ackL bs nw its next rs).2.getD j z54 = if d + j < its.length ∧ ((markAll bs (markL bs its 0 next) rs).getD (d + j) z54).f0 = false ∧ ((markAll bs (markL bs its 0 next) rs).getD (d + j) z54).f1 = false ∧ 3 ≤ ackedFrom (markAll bs (markL bs its 0 next) rs) (d + (j + 1)) then
      ⟨((markAll bs (markL bs its 0 next) rs).getD (d + j) z54).f0, true, ((markAll bs (markL bs its 0 next) rs).getD (d + j) z54).f2, nw⟩ else (markAll bs (markL bs its 0 next) rs).getD (d + j) z54 := by
  obtain ⟨d, h1, h2, h3, h4⟩ := dropA_spec bs (markAll bs (markL bs its 0 next) rs)
  rw [markAll_length, markL_length] at h1
  unfold ackL
  rw [h2]
  simp only
  have hit : ∀ j, (hurry nw ((markAll bs (markL bs its 0 next) rs).drop d)).1.getD j z54 = if d + j < its.length ∧ ((markAll bs (markL bs its 0 next) rs).getD (d + j) z54).f0 = false ∧ ((markAll bs (markL bs its 0 next) rs).getD (d + j) z54).f1 = false ∧ 3 ≤ ackedFrom (markAll bs (markL bs its 0 next) rs) (d + (j + 1)) then
      ⟨((markAll bs (markL bs its 0 next) rs).getD (d + j) z54).f0, true, ((markAll bs (markL bs its 0 next) rs).getD (d + j) z54).f2, nw⟩ else (markAll bs (markL bs its 0 next) rs).getD (d + j) z54 := by
    intro j
    rw [hurry_item, getD_drop_S]
    have e : ackedFrom ((markAll bs (markL bs its 0 next) rs).drop d) (j + 1) = ackedFrom (markAll bs (markL bs its 0 next) rs) (d + (j + 1)) := by
      unfold ackedFrom
      rw [List.drop_drop]
    have e2 : (j < ((markAll bs (markL bs its 0 next) rs).drop d).length) ↔ d + j < its.length := by
      rw [List.length_drop, markAll_length, markL_length]
      omega
    rw [e]
    simp only [e2]
  refine ⟨d, h1, rfl, ?_, h3, ?_, hit⟩
  · rw [(hurry_length nw _).1, List.length_drop, markAll_length, markL_length]
  · rw [hit 0]
    simp only [Nat.add_zero]
    split
    · exact h4
    · exact h4
theorem marked_item (bs : Int) (its : List S54) (next : Int) (rs : List (Int × Int)) (j : Nat) : (markAll bs (markL bs its 0 next) rs).getD j z54 = if j < its.length ∧ ((0 ≤ bs + j ∧ bs + j < next) ∨ toldBy rs (bs + j) = true) then { its.getD j z54 with f0 := true } else its.getD j z54 := by
  rw [markAll_item, markL_length, markL_item]
  by_cases hj : j < its.length
  · by_cases h1 : 0 ≤ bs + j ∧ bs + j < next
    · simp [hj, h1]
    · simp [hj, h1]
  · simp [hj]
theorem Good.ack {c : Cfg} {bs nw : Int} {its : List S54} (h : Good c bs nw its) (hms : 0 ≤ c.ms) (next : Int) (rs : List (Int × Int)) : Good c (ackL bs nw its next rs).1 nw (ackL bs nw its next rs).2 := by
  obtain ⟨d, h1, h2, h3, h4, h5, h6⟩ := ack_spec bs nw its next rs
  have hmk : ∀ j, ((markAll bs (markL bs its 0 next) rs).getD j z54).f2 = (its.getD j z54).f2 ∧ ((markAll bs (markL bs its 0 next) rs).getD j z54).f3 = (its.getD j z54).f3 := by
    intro j
    rw [marked_item]
    split <;> exact ⟨rfl, rfl⟩
  have hf := h.fit
  have hw := h.win
  have hb := h.b0
  refine ⟨by rw [h2]; omega, by rw [h2, h3]; omega, by rw [h3]; omega, h.n0, fun j => ?_, fun j => ?_, h5⟩
  · rw [h6]
    have := h.gap (d + j)
    rw [← (hmk (d + j)).1] at this
    split
    · exact this
    · exact this
  · rw [h6]
    have := h.due (d + j)
    rw [← (hmk (d + j)).2] at this
    split
    · show nw ≤ nw + c.ms
      omega
    · exact this
end Go.Proofs.Ytfmggodmhklfoaa.Lib
