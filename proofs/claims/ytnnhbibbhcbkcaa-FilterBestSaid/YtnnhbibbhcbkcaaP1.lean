/- Filters: the reference's loops come to the same; back and forth. -/
import Derived.Test.YtnnhbibbhcbkcaaP0
namespace Go.Proofs.Ytnnhbibbhcbkcaa.Lib
open Go.RowKit Go.Proofs.YtnnhbibbhcbkcaaW.PrintWords Go.Proofs.YtnnhbibbhcbkcaaW.PrintLast Go.Proofs.YtnnhbibbhcbkcaaW.PrintMore
theorem at_eq {l : List Int} (hl : BytesB l) (i : Int) (h0 : 0 ≤ i) : halftoneref13_at.f l i = some (rd l i) := by
  have hr := rd_range hl i
  unfold halftoneref13_at.f
  rw [if_neg (by omega)]
  by_cases h : i ≥ (l.length : Int)
  · rw [if_pos h, rd_beyond h]
  · rw [if_neg h, if_pos h0, if_pos (by omega)]
    congr 1
    generalize rd l i = v at *
    unfold wrap64; omega
theorem at_back {l : List Int} (hl : BytesB l) {i s : Int} (h0 : 0 ≤ i) (hi : i < 9223372036854775807) (h1 : 1 ≤ s) (h8 : s ≤ 8) : halftoneref13_at.f l (wrap64 (i - s)) = some (back l i s) := by
  rw [show wrap64 (i - s) = i - s by unfold wrap64; omega]
  unfold back
  by_cases h : s ≤ i
  · rw [if_pos h, at_eq hl _ (by omega)]
  · rw [if_neg h]
    unfold halftoneref13_at.f
    rw [if_pos (by omega)]
theorem size_eq {x : Int} (h : -1000 ≤ x) (h2 : x ≤ 1000) : halftoneref13_size.f x = some (absI x) := by
  unfold halftoneref13_size.f absI
  by_cases hx : x < 0
  · rw [if_pos hx, if_pos (by omega)]; congr 1; unfold wrap64; omega
  · rw [if_neg hx, if_neg (by omega)]
theorem paeth {l u c : Int} (n : Nat) (hl : 0 ≤ l ∧ l ≤ 255) (hu : 0 ≤ u ∧ u ≤ 255) (hc : 0 ≤ c ∧ c ≤ 255) :
    ((halftoneref13_size.f (wrap64 (u - (wrap64 ((wrap64 (l + u)) - c))))).bind fun t144 => (halftoneref13_size.f (wrap64 (l - (wrap64 ((wrap64 (l + u)) - c))))).bind fun t145 => (if t144 < t145 then (halftoneref13_Guess.j0 (n + 1) c (wrap64 ((wrap64 (l + u)) - c)) u) else (halftoneref13_Guess.j0 (n + 1) c (wrap64 ((wrap64 (l + u)) - c)) l))) = some (guessN 4 l u c) := by
  have e1 : wrap64 (l + u) = l + u := by unfold wrap64; omega
  have e2 : wrap64 (l + u - c) = l + u - c := by unfold wrap64; omega
  have e3 : wrap64 (u - (l + u - c)) = -(l - c) := by unfold wrap64; omega
  have e4 : wrap64 (l - (l + u - c)) = -(u - c) := by unfold wrap64; omega
  have e5 : wrap64 (c - (l + u - c)) = -(u - c + (l - c)) := by unfold wrap64; omega
  have ab : ∀ x : Int, absI (-x) = absI x := fun x => by unfold absI; split <;> split <;> omega
  rw [e1, e2, e3, e4, size_eq (by omega) (by omega), size_eq (by omega) (by omega), Option.bind_some, Option.bind_some, ab, ab]
  have j : ∀ b, (b = u ∨ b = l) → halftoneref13_Guess.j0 (n + 1) c (l + u - c) b = some (if absI (u - c + (l - c)) < absI (b - (l + u - c)) then c else b) := by
    intro b hb
    rw [halftoneref13_Guess.j0, e5, show wrap64 (b - (l + u - c)) = b - (l + u - c) by unfold wrap64; omega, size_eq (by omega) (by omega), size_eq (by omega) (by omega), Option.bind_some, Option.bind_some, ab]
    split <;> rfl
  rw [j u (Or.inl rfl), j l (Or.inr rfl), show u - (l + u - c) = -(l - c) by omega, show l - (l + u - c) = -(u - c) by omega, ab, ab]
  have hg : guessN 4 l u c = (if absI (u - c) ≤ absI (l - c) ∧ absI (u - c) ≤ absI (u - c + (l - c)) then l else if absI (l - c) ≤ absI (u - c + (l - c)) then u else c) := rfl
  rw [hg]
  generalize absI (u - c + (l - c)) = z
  generalize absI (u - c) = x
  generalize absI (l - c) = y
  by_cases h1 : y < x
  · rw [if_pos h1]
    by_cases h2 : z < y
    · rw [if_pos h2, if_neg (by omega), if_neg (by omega)]
    · rw [if_neg h2, if_neg (by omega), if_pos (by omega)]
  · rw [if_neg h1]
    by_cases h2 : z < x
    · rw [if_pos h2, if_neg (by omega), if_neg (by omega)]
    · rw [if_neg h2, if_pos (by omega)]
theorem guess_eq (k : Int) {row above : List Int} (hr : BytesB row) (ha : BytesB above) {i s : Int} (h0 : 0 ≤ i) (hi : i < 9223372036854775807) (h1 : 1 ≤ s) (h8 : s ≤ 8) (n : Nat) :
    halftoneref13_Guess.f (n + 1) k row above s i = some (guessN k (back row i s) (rd above i) (back above i s)) := by
  have hl := back_range hr i s
  have hu := rd_range ha i
  have hc := back_range ha i s
  unfold halftoneref13_Guess.f
  rw [at_back hr h0 hi h1 h8, at_eq ha i h0, at_back ha h0 hi h1 h8, Option.bind_some, Option.bind_some, Option.bind_some]
  generalize back row i s = l at *
  generalize rd above i = u at *
  generalize back above i s = c at *
  by_cases k1 : k = 1
  · rw [if_pos k1]; unfold guessN; rw [if_pos k1]
  rw [if_neg k1]
  by_cases k2 : k = 2
  · rw [if_pos k2]; unfold guessN; rw [if_neg k1, if_pos k2]
  rw [if_neg k2]
  by_cases k3 : k = 3
  · rw [if_pos k3]; unfold guessN; rw [if_neg k1, if_neg k2, if_pos k3]
    congr 1
    rw [show wrap64 (l + u) = l + u by unfold wrap64; omega, Int.tdiv_eq_ediv_of_nonneg (by omega)]
    unfold wrap64; omega
  rw [if_neg k3]
  by_cases k4 : k = 4
  · subst k4
    rw [if_pos rfl]
    exact paeth n hl hu hc
  rw [if_neg k4]; unfold guessN; rw [if_neg k1, if_neg k2, if_neg k3, if_neg k4]
theorem do_elem {r g : Int} (hr : 0 ≤ r ∧ r ≤ 255) (hg : 0 ≤ g ∧ g ≤ 255) : (Int.tmod (wrap64 ((wrap64 ((wrap64 r) - g)) + 256)) 256) % 256 = (r - g) % 256 := by
  rw [show wrap64 r = r by unfold wrap64; omega, show wrap64 (r - g) = r - g by unfold wrap64; omega, show wrap64 (r - g + 256) = r - g + 256 by unfold wrap64; omega, Int.tmod_eq_emod_of_nonneg (by omega)]
  omega
theorem undo_elem {r g : Int} (hr : 0 ≤ r ∧ r ≤ 255) (hg : 0 ≤ g ∧ g ≤ 255) : (Int.tmod (wrap64 ((wrap64 r) + g)) 256) % 256 = (r + g) % 256 := by
  rw [show wrap64 r = r by unfold wrap64; omega, show wrap64 (r + g) = r + g by unfold wrap64; omega, Int.tmod_eq_emod_of_nonneg (by omega)]
  omega
theorem rdo_l0 (k : Int) {s : Int} (hs : 1 ≤ s) (h8 : s ≤ 8) {row above : List Int} (hr : BytesB row) (ha : BytesB above) (h1 : row.length ≤ 140737488355327) (d : Nat) : ∀ (n i : Nat) (out : List Int), i + d = row.length → d + 1 < n → out.length = i →
    halftoneref13_Do.l0 n k row above s out row.length i = some (bld k s row above false d i out, 0) := by
  induction d with
  | zero =>
    intro n i out hi hn ho
    obtain ⟨n, rfl⟩ : ∃ m, n = m + 1 := ⟨n - 1, by omega⟩
    rw [halftoneref13_Do.l0, if_neg (by omega)]; rfl
  | succ d ih =>
    intro n i out hi hn ho
    obtain ⟨n, rfl⟩ : ∃ m, n = m + 1 + 1 := ⟨n - 2, by omega⟩
    have q1 : (i : Int) < (row.length : Int) := by omega
    have q2 : (0 : Int) ≤ (i : Int) := by omega
    have q3 : out.length < 140737488355328 := by omega
    have q4 : (i : Int) < 9223372036854775807 := by omega
    have q5 : i + 1 + d = row.length := by omega
    have q6 : d + 1 < n + 1 := by omega
    have hb := rd_range hr (i : Int)
    have hg := guess_range k (back row i s) (rd above i) (back above i s) (back_range hr _ _) (rd_range ha _) (back_range ha _ _)
    rw [halftoneref13_Do.l0, if_pos q1, if_pos q2, if_pos q1, guess_eq k hr ha q2 q4 hs h8, Option.bind_some, if_pos q3, do_elem hb hg, wrap_nat (by omega)]
    rw [ih (n + 1) (i + 1) _ q5 q6 (by rw [List.length_append, List.length_singleton, ho])]
    rfl
theorem rundo_l0 (k : Int) {s : Int} (hs : 1 ≤ s) (h8 : s ≤ 8) {row above : List Int} (hr : BytesB row) (ha : BytesB above) (h1 : row.length ≤ 140737488355327) (d : Nat) : ∀ (n i : Nat) (out : List Int), i + d = row.length → d + 1 < n → out.length = i → BytesB out →
    halftoneref13_Undo.l0 n k row above s out row.length i = some (bld k s row above true d i out, 0) := by
  induction d with
  | zero =>
    intro n i out hi hn ho hb
    obtain ⟨n, rfl⟩ : ∃ m, n = m + 1 := ⟨n - 1, by omega⟩
    rw [halftoneref13_Undo.l0, if_neg (by omega)]; rfl
  | succ d ih =>
    intro n i out hi hn ho hbo
    obtain ⟨n, rfl⟩ : ∃ m, n = m + 1 + 1 := ⟨n - 2, by omega⟩
    have q1 : (i : Int) < (row.length : Int) := by omega
    have q2 : (0 : Int) ≤ (i : Int) := by omega
    have q3 : out.length < 140737488355328 := by omega
    have q4 : (i : Int) < 9223372036854775807 := by omega
    have q5 : i + 1 + d = row.length := by omega
    have q6 : d + 1 < n + 1 := by omega
    have hb := rd_range hr (i : Int)
    have hg := guess_range k (back out i s) (rd above i) (back above i s) (back_range hbo _ _) (rd_range ha _) (back_range ha _ _)
    rw [halftoneref13_Undo.l0, if_pos q1, guess_eq k hbo ha q2 q4 hs h8, Option.bind_some, if_pos q2, if_pos q1, if_pos q3, undo_elem hb hg, wrap_nat (by omega)]
    have e : (rd row i + guessN k (back out i s) (rd above i) (back above i s)) % 256 = oneW k s row above out true i := rfl
    rw [e, ih (n + 1) (i + 1) _ q5 q6 (by rw [List.length_append, List.length_singleton, ho]) (fun v hv => by
      rcases List.mem_append.1 hv with h | h
      · exact hbo v h
      · rw [List.mem_singleton.1 h]; exact oneW_range ..)]
    rfl
theorem ev_rdo (k s : Int) {row above : List Int} (hr : BytesB row) (ha : BytesB above) (h1 : row.length ≤ 140737488355327) : Ev (fun n => halftoneref13_Do.f n k row above s) (ans k s row above false) := by
  refine rounds_of (halftoneref13_Do.mono k row above s) ⟨row.length + 2, ?_⟩
  unfold halftoneref13_Do.f ans
  rw [rcheck_eq, Option.bind_some]
  by_cases h : chk k s = 0
  · have hc := chk_zero h
    rw [if_pos h, if_pos h]
    exact rdo_l0 k hc.1 hc.2.1 hr ha h1 row.length (row.length + 2) 0 [] (by omega) (by omega) rfl
  · rw [if_neg h, if_neg h]
theorem ev_rundo (k s : Int) {row above : List Int} (hr : BytesB row) (ha : BytesB above) (h1 : row.length ≤ 140737488355327) : Ev (fun n => halftoneref13_Undo.f n k row above s) (ans k s row above true) := by
  refine rounds_of (halftoneref13_Undo.mono k row above s) ⟨row.length + 2, ?_⟩
  unfold halftoneref13_Undo.f ans
  rw [rcheck_eq, Option.bind_some]
  by_cases h : chk k s = 0
  · have hc := chk_zero h
    rw [if_pos h, if_pos h]
    exact rundo_l0 k hc.1 hc.2.1 hr ha h1 row.length (row.length + 2) 0 [] (by omega) (by omega) rfl nil_bytes
  · rw [if_neg h, if_neg h]
theorem ans_bytes (k s : Int) (row above : List Int) (undo : Bool) : BytesB (ans k s row above undo).1 := by
  unfold ans; split
  · exact res_bytes k s row above undo
  · exact nil_bytes
/-- back and forth -/
theorem undo_do (k : Int) {s : Int} (hs : 1 ≤ s) {row above : List Int} (hr : BytesB row) : res k s (res k s row above false) above true = row := by
  have hl := res_len k s row above false
  have h := bld_unique k s (res k s row above false) above row true row.length 0 (by omega) (fun j hj _ => by
    have hj' : j < (res k s row above false).length := by rw [hl]; exact hj
    have e := bld_elem k s row above false row.length 0 [] rfl j hj' (Nat.zero_le _)
    have e2 : rd (res k s row above false) j = oneW k s row above ((res k s row above false).take j) false j := by rw [rd_nat hj']; exact e
    have e3 := rd_nat hj
    have hb := rd_range hr (j : Int)
    unfold oneW at e2 ⊢
    simp only [Bool.false_eq_true, if_false, if_true] at e2 ⊢
    rw [e2, back_take row j hs, e3]
    rw [e3] at hb
    generalize guessN k (back row j s) (rd above j) (back above j s) = g
    generalize row[j] = r at *
    omega)
  unfold res at h ⊢
  rw [show (bld k s row above false row.length 0 []).length = row.length from hl]
  exact h
theorem do_undo (k : Int) {s : Int} (hs : 1 ≤ s) {row above : List Int} (hr : BytesB row) : res k s (res k s row above true) above false = row := by
  have hl := res_len k s row above true
  have h := bld_unique k s (res k s row above true) above row false row.length 0 (by omega) (fun j hj _ => by
    have hj' : j < (res k s row above true).length := by rw [hl]; exact hj
    have e := bld_elem k s row above true row.length 0 [] rfl j hj' (Nat.zero_le _)
    have e2 : rd (res k s row above true) j = oneW k s row above ((res k s row above true).take j) true j := by rw [rd_nat hj']; exact e
    have e3 := rd_nat hj
    have hb := rd_range hr (j : Int)
    unfold oneW at e2 ⊢
    simp only [Bool.false_eq_true, if_false, if_true] at e2 ⊢
    rw [e2, back_take _ j hs, e3]
    rw [e3] at hb
    generalize guessN k (back (res k s row above true) j s) (rd above j) (back above j s) = g
    generalize row[j] = r at *
    omega)
  unfold res at h ⊢
  rw [show (bld k s row above true row.length 0 []).length = row.length from hl]
  exact h
end Go.Proofs.Ytnnhbibbhcbkcaa.Lib
