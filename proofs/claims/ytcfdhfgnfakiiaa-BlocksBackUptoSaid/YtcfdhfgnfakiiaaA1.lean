/- what pushed bytes tell, and what the document's run over all bytes tells: plain lists. -/
import Derived.Test.YtcfdhfgnfakiiaaV4
namespace Go.Proofs.Ytcfdhfgnfakiiaa.Lib
open Go.RowKit Go.Proofs.YtcfdhfgnfakiiaaW.PrintWords Go.Proofs.YtcfdhfgnfakiiaaW.PrintLast Go.Proofs.YtcfdhfgnfakiiaaW.PrintMore
theorem pushL_append : ∀ (x : List Int) (a b : Int) (d : Bool) (y : List Int), pushL a b d (x ++ y) =
    ((pushL a b d x).1 ++ (pushL (pushL a b d x).2.1 (pushL a b d x).2.2.1 (pushL a b d x).2.2.2.1 y).1,
     (pushL (pushL a b d x).2.1 (pushL a b d x).2.2.1 (pushL a b d x).2.2.2.1 y).2.1,
     (pushL (pushL a b d x).2.1 (pushL a b d x).2.2.1 (pushL a b d x).2.2.2.1 y).2.2.1,
     (pushL (pushL a b d x).2.1 (pushL a b d x).2.2.1 (pushL a b d x).2.2.2.1 y).2.2.2.1,
     (pushL a b d x).2.2.2.2 ++ (pushL (pushL a b d x).2.1 (pushL a b d x).2.2.1 (pushL a b d x).2.2.2.1 y).2.2.2.2)
  | [], a, b, d, y => by simp [pushL]
  | c :: cs, a, b, true, y => by simp [pushL_true]
  | c :: cs, a, b, false, y => by
    rw [List.cons_append]
    by_cases h : 0 < a
    · rw [pushL_pos h, pushL_pos h, pushL_append cs]
      simp
    · rw [pushL_neg h, pushL_neg h, pushL_append cs]
/-- the bounds of what is told -/
theorem pushL_bd : ∀ (x : List Int) (a b : Int) (d : Bool), 0 ≤ a → a ≤ 255 → 0 ≤ b → BytesB x →
    (pushL a b d x).1.length ≤ x.length ∧ 0 ≤ (pushL a b d x).2.1 ∧ (pushL a b d x).2.1 ≤ 255 ∧ 0 ≤ (pushL a b d x).2.2.1 ∧ (pushL a b d x).2.2.1 ≤ b + x.length ∧ (pushL a b d x).2.2.2.2.length ≤ x.length
  | [], a, b, d, h0, h1, h2, _ => by simp [pushL]; omega
  | c :: cs, a, b, true, h0, h1, h2, _ => by simp [pushL_true]; omega
  | c :: cs, a, b, false, h0, h1, h2, hB => by
    have hc := hB c List.mem_cons_self
    have hBs : BytesB cs := fun x hx => hB x (List.mem_cons_of_mem _ hx)
    by_cases h : 0 < a
    · have := pushL_bd cs (a - 1) (b + 1) false (by omega) (by omega) (by omega) hBs
      rw [pushL_pos h]
      simp only [List.length_cons]
      omega
    · have := pushL_bd cs c (b + 1) (c == 0) (by omega) (by omega) (by omega) hBs
      rw [pushL_neg h]
      simp only [List.length_cons]
      omega
theorem pushL_take : ∀ (cs : List Int) (n : Nat) (s : Int), pushL n s false cs =
    (cs.take n ++ (pushL ((n - min n cs.length : Nat) : Int) (s + (min n cs.length : Nat)) false (cs.drop n)).1, (pushL ((n - min n cs.length : Nat) : Int) (s + (min n cs.length : Nat)) false (cs.drop n)).2)
  | [], n, s => by simp [pushL]
  | c :: cs, 0, s => by simp
  | c :: cs, n + 1, s => by
    rw [pushL_pos (by omega)]
    have e : (((n + 1 : Nat) : Int) - 1) = (n : Int) := by omega
    rw [e, pushL_take cs n (s + 1)]
    have e1 : n + 1 - min (n + 1) (c :: cs).length = n - min n cs.length := by simp only [List.length_cons]; omega
    have e2 : s + ((min (n + 1) (c :: cs).length : Nat) : Int) = s + 1 + ((min n cs.length : Nat) : Int) := by simp only [List.length_cons]; omega
    rw [e1, e2]
    simp
theorem of_loop (d : Nat) : ∀ (l acc : List Int) (s : Int), l.length ≤ d → BytesB l → acc.length + l.length ≤ 140737488350000 → 0 ≤ s → s + l.length ≤ 140737488350000 →
    Ev (fun k => halftoneref10_Of.l0 k l acc false s) (acc ++ (pushL 0 s false l).1, (pushL 0 s false l).2.2.2.2, (pushL 0 s false l).2.2.2.1, (pushL 0 s false l).2.2.1) := by
  induction d with
  | zero =>
    intro l acc s hl _ _ _ _
    obtain rfl := List.length_eq_zero_iff.1 (by omega : l.length = 0)
    refine Ev.step (f := fun _ => some (acc, [], false, s)) (fun k => ?_) (by simpa [pushL] using Ev.now _)
    simp only [halftoneref10_Of.l0, List.length_nil]
    rw [if_neg (by decide)]
  | succ d ih =>
    intro l acc s hl hB ha h0 hs
    cases l with
    | nil => exact ih [] acc s (by simp) hB ha h0 hs
    | cons c cs =>
      have hc := hB c List.mem_cons_self
      have hBs : BytesB cs := fun x hx => hB x (List.mem_cons_of_mem _ hx)
      simp only [List.length_cons] at hl ha hs
      have hrd : wrap64 (rd (c :: cs) 0) = c := by
        have : rd (c :: cs) 0 = c := rfl
        rw [this]; exact wrap64_in (by omega) (by omega)
      have hs1 : wrap64 (s + 1) = s + 1 := wrap64_in (by omega) (by omega)
      by_cases hz : c = 0
      · subst hz
        refine Ev.step (f := fun _ => some (acc, cs, true, s + 1)) (fun k => ?_) ?_
        · simp only [halftoneref10_Of.l0, hrd, hs1, List.length_cons, List.drop_succ_cons, List.drop_zero, Option.bind_some, List.nil_append, List.length_nil]
          rw [if_pos (by omega), if_pos (by omega), if_pos (by omega), if_pos trivial, if_pos (by omega)]
        · rw [pushL_neg (by omega)]
          simp only [show ((0 : Int) == 0) = true from rfl, pushL_true, List.append_nil]
          exact Ev.now _
      · obtain ⟨n, rfl⟩ : ∃ n : Nat, c = n := ⟨c.toNat, by omega⟩
        have hm : mn (n : Int) (cs.length : Int) = ((min n cs.length : Nat) : Int) := by unfold mn; split <;> omega
        have hs2 : wrap64 (s + 1 + ((min n cs.length : Nat) : Int)) = s + 1 + ((min n cs.length : Nat) : Int) := wrap64_in (by omega) (by omega)
        refine Ev.step (f := fun k => halftoneref10_Of.l0 k (cs.drop (min n cs.length)) (acc ++ cs.take (min n cs.length)) false (s + 1 + ((min n cs.length : Nat) : Int))) (fun k => ?_) ?_
        · simp only [halftoneref10_Of.l0, hrd, hs1, List.length_cons, List.drop_succ_cons, List.drop_zero, Option.bind_some, hm, hs2, Int.toNat_natCast, List.length_take]
          rw [if_pos (by omega), if_pos (by omega), if_pos (by omega), if_neg hz, if_pos (by omega), if_pos (by omega), if_pos (by omega)]
        · have e0 : ((n : Int) == 0) = false := by simpa using hz
          rw [pushL_neg (by omega), e0, pushL_take]
          by_cases hlt : cs.length ≤ n
          · have e1 : min n cs.length = cs.length := by omega
            rw [e1, List.drop_length, List.take_length, List.take_of_length_le hlt, List.drop_eq_nil_of_le hlt]
            have := ih [] (acc ++ cs) (s + 1 + (cs.length : Nat)) (by simp) (fun _ h => by cases h) (by simp; omega) (by omega) (by simp; omega)
            simpa [pushL] using this
          · have e1 : min n cs.length = n := by omega
            rw [e1, Nat.sub_self]
            have := ih (cs.drop n) (acc ++ cs.take n) (s + 1 + (n : Nat)) (by simp; omega) (fun x hx => hBs x (List.mem_of_mem_drop hx)) (by simp only [List.length_append, List.length_take, List.length_drop]; omega) (by omega) (by simp only [List.length_drop]; omega)
            simpa using this
theorem of_tells (l : List Int) (hB : BytesB l) (hl : l.length ≤ 100000000) : ∃ k, halftoneref10_Of.f k l = some ((pushL 0 0 false l).1, (pushL 0 0 false l).2.2.2.2, (pushL 0 0 false l).2.2.2.1, (pushL 0 0 false l).2.2.1) := by
  have := (of_loop l.length l [] 0 (Nat.le_refl _) hB (by simp; omega) (by omega) (by omega)).rounds
  simpa [halftoneref10_Of.f] using this
end Go.Proofs.Ytcfdhfgnfakiiaa.Lib
