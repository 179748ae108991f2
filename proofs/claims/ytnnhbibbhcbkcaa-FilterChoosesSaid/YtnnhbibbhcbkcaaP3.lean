/- The laws FilterChooses, FilterBest over the plain functions. -/
import Derived.Test.YtnnhbibbhcbkcaaP2
import Derived.Test.YtnnhbibbhcbkcaaAFilterChooses
import Derived.Test.YtnnhbibbhcbkcaaAFilterBest
namespace Go.Proofs.Ytnnhbibbhcbkcaa.Lib
open Go.RowKit Go.Proofs.YtnnhbibbhcbkcaaW.PrintWords Go.Proofs.YtnnhbibbhcbkcaaW.PrintLast Go.Proofs.YtnnhbibbhcbkcaaW.PrintMore
/-- what bytes weigh, their signs let go -/
def wt : List Int → Int
  | [] => 0
  | c :: l => (if 256 - c < c then 256 - c else c) + wt l
theorem wt_range (l : List Int) (h : BytesB l) : 0 ≤ wt l ∧ wt l ≤ 128 * l.length := by
  induction l with
  | nil => simp [wt]
  | cons c l ih =>
    have hc := h c (by simp)
    have := ih (fun v hv => h v (by simp [hv]))
    simp only [wt, List.length_cons]
    split <;> omega
theorem wt_take (l : List Int) (i : Nat) (h : i < l.length) : wt (l.take (i + 1)) = wt (l.take i) + (if 256 - l[i] < l[i] then 256 - l[i] else l[i]) := by
  rw [List.take_succ_eq_append_getElem h]
  generalize l.take i = a
  generalize l[i] = c
  induction a with
  | nil => simp [wt]
  | cons d a ih => simp only [List.cons_append, wt]; rw [ih]; omega
theorem weight_elem {c : Int} (h : 0 ≤ c ∧ c ≤ 255) : mn (wrap64 c) (wrap64 (256 - wrap64 c)) = (if 256 - c < c then 256 - c else c) := by
  rw [show wrap64 c = c by unfold wrap64; omega, show wrap64 (256 - c) = 256 - c by unfold wrap64; omega]
  rfl
theorem choose_elem {c : Int} (h : 0 ≤ c ∧ c ≤ 255) : mx (wrap64 (IntKind.i8.wrap c)) (wrap64 (-(wrap64 (IntKind.i8.wrap c)))) = (if 256 - c < c then 256 - c else c) := by
  have e : IntKind.i8.wrap c = if c < 128 then c else c - 256 := by
    simp [IntKind.wrap, IntKind.bits, IntKind.signed]
    split <;> split <;> omega
  rw [e]
  unfold mx
  by_cases hc : c < 128
  · rw [if_pos hc, show wrap64 c = c by unfold wrap64; omega, show wrap64 (-c) = -c by unfold wrap64; omega]
    split <;> split <;> omega
  · rw [if_neg hc, show wrap64 (c - 256) = c - 256 by unfold wrap64; omega, show wrap64 (-(c - 256)) = 256 - c by unfold wrap64; omega]
    split <;> split <;> omega
theorem weight_l0 (l : List Int) (hl : BytesB l) (hn : l.length ≤ 140737488355328) (d : Nat) : ∀ (k i : Nat), i + d = l.length → d < k → halftoneref13_Weight.l0 k (wt (l.take i)) l l.length i = some (wt l) := by
  induction d with
  | zero =>
    intro k i hi hk
    obtain ⟨k, rfl⟩ : ∃ m, k = m + 1 := ⟨k - 1, by omega⟩
    rw [halftoneref13_Weight.l0, if_neg (by omega), List.take_of_length_le (by omega)]
  | succ d ih =>
    intro k i hi hk
    obtain ⟨k, rfl⟩ : ∃ m, k = m + 1 := ⟨k - 1, by omega⟩
    have hlt : i < l.length := by omega
    have q1 : (i : Int) < (l.length : Int) := by omega
    have q2 : (0 : Int) ≤ (i : Int) := by omega
    have q3 : i + 1 + d = l.length := by omega
    have q4 : d < k := by omega
    have q5 : i < 9223372036854775807 := by omega
    have hc := hl l[i] (List.getElem_mem hlt)
    have hw := wt_range (l.take i) (fun v hv => hl v (List.mem_of_mem_take hv))
    rw [List.length_take] at hw
    have hs : wrap64 (wt (l.take i) + (if 256 - l[i] < l[i] then 256 - l[i] else l[i])) = wt (l.take (i + 1)) := by
      rw [wt_take l i hlt]
      generalize wt (l.take i) = z at *
      generalize l[i] = c at *
      unfold wrap64
      split <;> omega
    rw [halftoneref13_Weight.l0, if_pos q1, if_pos q2, if_pos q1, rd_nat hlt, weight_elem hc, hs, wrap_nat q5, ih k (i + 1) q3 q4]
theorem ev_weight (l : List Int) (hl : BytesB l) (hn : l.length ≤ 140737488355328) : Ev (fun k => halftoneref13_Weight.f k l) (wt l) :=
  rounds_of (halftoneref13_Weight.mono l) ⟨l.length + 1, weight_l0 l hl hn l.length (l.length + 1) 0 (by omega) (by omega)⟩
/-- one step of the choice -/
def pick (k w : Int) (st : Int × Int) : Int × Int := if st.2 < 0 then (k, w) else if w < st.2 then (k, w) else st
theorem choose_l1 (row above : List Int) (s : Int) (l : List Int) (hl : BytesB l) (hn : l.length ≤ 140737488355328) (kd b9 : Int) (best : Int) (d : Nat) : ∀ (k i : Nat), i + d = l.length → d < k →
    filter_Choose.l1 k row above s best b9 kd (wt (l.take i)) kd l l.length i = filter_Choose.l0 (k - d - 1) row above s (pick kd (wt l) (best, b9)).1 (pick kd (wt l) (best, b9)).2 (wrap64 (kd + 1)) := by
  induction d with
  | zero =>
    intro k i hi hk
    obtain ⟨k, rfl⟩ : ∃ m, k = m + 1 := ⟨k - 1, by omega⟩
    rw [filter_Choose.l1, if_neg (by omega), List.take_of_length_le (by omega)]
    unfold pick
    by_cases h1 : b9 < 0
    · rw [if_pos h1, if_pos h1]; rfl
    · rw [if_neg h1, if_neg h1]
      by_cases h2 : wt l < b9
      · rw [if_pos h2, if_pos h2]; rfl
      · rw [if_neg h2, if_neg h2]; rfl
  | succ d ih =>
    intro k i hi hk
    obtain ⟨k, rfl⟩ : ∃ m, k = m + 1 := ⟨k - 1, by omega⟩
    have hlt : i < l.length := by omega
    have q1 : (i : Int) < (l.length : Int) := by omega
    have q2 : (0 : Int) ≤ (i : Int) := by omega
    have q3 : i + 1 + d = l.length := by omega
    have q4 : d < k := by omega
    have q5 : i < 9223372036854775807 := by omega
    have q6 : k - d - 1 = k + 1 - (d + 1) - 1 := by omega
    have hc := hl l[i] (List.getElem_mem hlt)
    have hw := wt_range (l.take i) (fun v hv => hl v (List.mem_of_mem_take hv))
    rw [List.length_take] at hw
    have hs : wrap64 (wt (l.take i) + (if 256 - l[i] < l[i] then 256 - l[i] else l[i])) = wt (l.take (i + 1)) := by
      rw [wt_take l i hlt]
      generalize wt (l.take i) = z at *
      generalize l[i] = c at *
      unfold wrap64
      split <;> omega
    rw [filter_Choose.l1, if_pos q1, if_pos q2, if_pos q1, rd_nat hlt, choose_elem hc, hs, wrap_nat q5, ih k (i + 1) q3 q4, q6]
/-- the choice from a kind on -/
def choice (s : Int) (row above : List Int) : Nat → Int → Int × Int → Int × Int
  | 0, _, st => (st.1, 0)
  | d + 1, kd, st => if chk kd s = 0 then choice s row above d (kd + 1) (pick kd (wt (res kd s row above false)) st) else (0, chk kd s)
theorem choose_l0 {s : Int} {row above : List Int} (hr : BytesB row) (ha : BytesB above) (h1 : row.length ≤ 140737488355327) (h2 : above.length ≤ 9223372036854775807) (d : Nat) : ∀ (kd : Int) (st : Int × Int), kd + d = 5 → 0 ≤ kd →
    Ev (fun k => filter_Choose.l0 k row above s st.1 st.2 kd) (choice s row above d kd st) := by
  induction d with
  | zero =>
    intro kd st hk h0
    refine ⟨1, fun k hk' => ?_⟩
    obtain ⟨k, rfl⟩ : ∃ m, k = m + 1 := ⟨k - 1, by omega⟩
    show filter_Choose.l0 (k + 1) _ _ _ _ _ _ = _
    rw [filter_Choose.l0, if_neg (by omega)]; rfl
  | succ d ih =>
    intro kd st hk h0
    have q1 : kd < 5 := by omega
    have q2 : wrap64 (kd + 1) = kd + 1 := by unfold wrap64; omega
    by_cases hc : chk kd s = 0
    · obtain ⟨K, e⟩ := ih (kd + 1) (pick kd (wt (res kd s row above false)) st) (by omega) (by omega)
      refine ⟨K + row.length + 3, fun k hk' => ?_⟩
      obtain ⟨k, rfl⟩ : ∃ m, k = m + 1 + 1 := ⟨k - 2, by omega⟩
      have q3 : row.length < k + 1 := by omega
      have q4 : K ≤ k + 1 - row.length - 1 := by omega
      have q5 : 0 + row.length = row.length := by omega
      have f : filter_Choose.l0 (k + 1 - row.length - 1) row above s _ _ (kd + 1) = _ := e (k + 1 - row.length - 1) q4
      show filter_Choose.l0 (k + 1 + 1) _ _ _ _ _ _ = _
      rw [filter_Choose.l0, if_pos q1, do_eq kd s hr ha (by omega) h2, Option.bind_some, ans_ok _ _ _ hc]
      simp only [if_true]
      have g := choose_l1 row above s (res kd s row above false) (res_bytes kd s row above false) (by rw [res_len]; omega) kd st.2 st.1 row.length (k + 1) 0 (by rw [res_len]; exact q5) q3
      have z : wt ((res kd s row above false).take 0) = 0 := rfl
      rw [z, Int.natCast_zero] at g
      rw [g, q2, f]
      simp only [choice]
      rw [if_pos hc]
    · refine ⟨2, fun k hk' => ?_⟩
      obtain ⟨k, rfl⟩ : ∃ m, k = m + 1 + 1 := ⟨k - 2, by omega⟩
      show filter_Choose.l0 (k + 1 + 1) _ _ _ _ _ _ = _
      have ha' : ans kd s row above false = ([], chk kd s) := by unfold ans; rw [if_neg hc]
      rw [filter_Choose.l0, if_pos q1, do_eq kd s hr ha (by omega) h2, Option.bind_some, ha']
      simp only []
      rw [if_neg hc]
      simp only [choice]
      rw [if_neg hc]
theorem rchoose_l0 {s : Int} {row above : List Int} (hr : BytesB row) (ha : BytesB above) (h1 : row.length ≤ 140737488355327) (d : Nat) : ∀ (kd : Int) (st : Int × Int), kd + d = 5 → 0 ≤ kd →
    Ev (fun k => halftoneref13_Choose.l0 k row above s st.1 st.2 kd) (choice s row above d kd st) := by
  induction d with
  | zero =>
    intro kd st hk h0
    refine ⟨1, fun k hk' => ?_⟩
    obtain ⟨k, rfl⟩ : ∃ m, k = m + 1 := ⟨k - 1, by omega⟩
    show halftoneref13_Choose.l0 (k + 1) _ _ _ _ _ _ = _
    rw [halftoneref13_Choose.l0, if_neg (by omega)]; rfl
  | succ d ih =>
    intro kd st hk h0
    have q1 : kd < 5 := by omega
    have q2 : wrap64 (kd + 1) = kd + 1 := by unfold wrap64; omega
    obtain ⟨K1, e1⟩ := ev_rdo kd s hr ha h1
    by_cases hc : chk kd s = 0
    · obtain ⟨K2, e2⟩ := ev_weight (res kd s row above false) (res_bytes kd s row above false) (by rw [res_len]; omega)
      obtain ⟨K, e⟩ := ih (kd + 1) (pick kd (wt (res kd s row above false)) st) (by omega) (by omega)
      refine ⟨K + K1 + K2 + 1, fun k hk' => ?_⟩
      obtain ⟨k, rfl⟩ : ∃ m, k = m + 1 := ⟨k - 1, by omega⟩
      have f1 : halftoneref13_Do.f k kd row above s = some (ans kd s row above false) := e1 k (by omega)
      have f2 : halftoneref13_Weight.f k (res kd s row above false) = some (wt (res kd s row above false)) := e2 k (by omega)
      have f : halftoneref13_Choose.l0 k row above s _ _ (kd + 1) = _ := e k (by omega)
      show halftoneref13_Choose.l0 (k + 1) _ _ _ _ _ _ = _
      rw [halftoneref13_Choose.l0, if_pos q1, f1, Option.bind_some, ans_ok _ _ _ hc]
      simp only [if_true]
      rw [f2, Option.bind_some, q2]
      simp only [choice]
      rw [if_pos hc]
      by_cases h3 : st.2 < 0
      · have hp : pick kd (wt (res kd s row above false)) st = (kd, wt (res kd s row above false)) := by unfold pick; rw [if_pos h3]
        rw [hp] at f ⊢
        rw [if_pos h3]; exact f
      · rw [if_neg h3]
        by_cases h4 : wt (res kd s row above false) < st.2
        · have hp : pick kd (wt (res kd s row above false)) st = (kd, wt (res kd s row above false)) := by unfold pick; rw [if_neg h3, if_pos h4]
          rw [hp] at f ⊢
          rw [if_pos h4]; exact f
        · have hp : pick kd (wt (res kd s row above false)) st = st := by unfold pick; rw [if_neg h3, if_neg h4]
          rw [hp] at f ⊢
          rw [if_neg h4]; exact f
    · refine ⟨K1 + 1, fun k hk' => ?_⟩
      obtain ⟨k, rfl⟩ : ∃ m, k = m + 1 := ⟨k - 1, by omega⟩
      have f1 : halftoneref13_Do.f k kd row above s = some (ans kd s row above false) := e1 k (by omega)
      show halftoneref13_Choose.l0 (k + 1) _ _ _ _ _ _ = _
      have ha' : ans kd s row above false = ([], chk kd s) := by unfold ans; rw [if_neg hc]
      rw [halftoneref13_Choose.l0, if_pos q1, f1, Option.bind_some, ha']
      simp only []
      rw [if_neg hc]
      simp only [choice]
      rw [if_neg hc]
theorem FilterChooses : halftonelaw13_FilterChooses.Pure := by
  intro row above s _ h1 h2 _ h3 h4 _
  have hr := BytesB.of h2
  have ha := BytesB.of h4
  have l1 : row.length ≤ 140737488355327 := by omega
  have l2 : above.length ≤ 9223372036854775807 := by omega
  obtain ⟨K1, e1⟩ := choose_l0 (s := s) hr ha l1 l2 5 0 (0, -1) (by omega) (by omega)
  obtain ⟨K2, e2⟩ := rchoose_l0 (s := s) hr ha l1 5 0 (0, -1) (by omega) (by omega)
  obtain ⟨K3, e3⟩ := ev_fixed
  obtain ⟨K, hK⟩ : ∃ K, K1 + K2 + K3 = K := ⟨_, rfl⟩
  have f1 : filter_Choose.f K row above s = some (choice s row above 5 0 (0, -1)) := e1 K (by omega)
  have f2 : halftoneref13_Choose.f K row above s = some (choice s row above 5 0 (0, -1)) := e2 K (by omega)
  have f3 : halftonelaw13_fixed.f K = _ := e3 K (by omega)
  refine ⟨K, ?_⟩
  unfold halftonelaw13_FilterChooses.f
  rw [f3, Option.bind_some, if_pos rfl, f1, Option.bind_some, f2, Option.bind_some, if_pos rfl, beq_self_eq_true]
/-- the one chosen leaves no more than any other one -/
theorem choice_best (s : Int) (row above : List Int) (hs : 1 ≤ s ∧ s ≤ 8) (d : Nat) : ∀ (kd : Int) (st : Int × Int), kd + d = 5 → 0 ≤ kd → (st.2 < 0 ∧ kd = 0 ∨ (0 ≤ st.1 ∧ st.1 < kd ∧ st.2 = wt (res st.1 s row above false) ∧ ∀ o, 0 ≤ o → o < kd → st.2 ≤ wt (res o s row above false))) → (0 ≤ kd ∧ (d = 0 → 0 < kd)) →
    (∀ o, 0 ≤ wt (res o s row above false)) → (choice s row above d kd st).2 = 0 ∧ 0 ≤ (choice s row above d kd st).1 ∧ (choice s row above d kd st).1 ≤ 4 ∧ ∀ o, 0 ≤ o → o ≤ 4 → wt (res (choice s row above d kd st).1 s row above false) ≤ wt (res o s row above false) := by
  induction d with
  | zero =>
    intro kd st hk h0 hst hd hp
    rcases hst with ⟨_, h⟩ | ⟨h1, h2, h3, h4⟩
    · omega
    · refine ⟨rfl, h1, by show st.1 ≤ 4; omega, fun o o0 o4 => ?_⟩
      show wt (res st.1 s row above false) ≤ _
      rw [← h3]; exact h4 o o0 (by omega)
  | succ d ih =>
    intro kd st hk h0 hst hd hp
    simp only [choice]
    rw [if_pos (chk_ok hs.1 hs.2 h0 (by omega))]
    refine ih (kd + 1) _ (by omega) (by omega) (.inr ?_) ⟨by omega, fun _ => by omega⟩ hp
    unfold pick
    rcases hst with ⟨h1, h2⟩ | ⟨h1, h2, h3, h4⟩
    · rw [if_pos h1]
      refine ⟨h0, by show kd < kd + 1; omega, rfl, fun o o0 o1 => ?_⟩
      rw [show o = kd by omega]; exact Int.le_refl _
    · have hp1 := hp st.1
      rw [← h3] at hp1
      rw [if_neg (by omega)]
      by_cases h5 : wt (res kd s row above false) < st.2
      · rw [if_pos h5]
        refine ⟨h0, by show kd < kd + 1; omega, rfl, fun o o0 o1 => ?_⟩
        by_cases h6 : o = kd
        · rw [h6]; exact Int.le_refl _
        · have h7 := h4 o o0 (by omega)
          show wt (res kd s row above false) ≤ _
          generalize wt (res kd s row above false) = a at *
          generalize wt (res o s row above false) = b at *
          omega
      · rw [if_neg h5]
        refine ⟨h1, by omega, h3, fun o o0 o1 => ?_⟩
        by_cases h6 : o = kd
        · rw [h6]
          generalize wt (res kd s row above false) = a at *
          omega
        · exact h4 o o0 (by omega)
theorem FilterBest : halftonelaw13_FilterBest.Pure := by
  intro row above s0 o0 _ h1 h2 _ h3 h4 hs0 ho0
  have hr := BytesB.of h2
  have ha := BytesB.of h4
  have l1 : row.length ≤ 140737488355327 := by omega
  have l1' : row.length ≤ 140737488355328 := by omega
  have l2 : above.length ≤ 9223372036854775807 := by omega
  obtain ⟨o, ho⟩ : ∃ o, wrap64 (Int.tmod o0 5) = o := ⟨_, rfl⟩
  obtain ⟨s, hs⟩ : ∃ s, wrap64 (1 + wrap64 (Int.tmod s0 8)) = s := ⟨_, rfl⟩
  have ob := small (m := 5) (wf_u8 ho0) (by omega) (by omega)
  have sb := small (m := 8) (wf_u8 hs0) (by omega) (by omega)
  rw [ho] at ob
  have s1 : 1 ≤ s ∧ s ≤ 8 := by
    rw [← hs]
    generalize wrap64 (Int.tmod s0 8) = z at sb
    unfold wrap64; omega
  have hb := choice_best s row above s1 5 0 (0, -1) (by omega) (by omega) (.inl ⟨by show (-1 : Int) < 0; omega, rfl⟩) ⟨by omega, fun h => by omega⟩ (fun o => (wt_range _ (res_bytes o s row above false)).1)
  obtain ⟨K1, e1⟩ := choose_l0 (s := s) hr ha l1 l2 5 0 (0, -1) (by omega) (by omega)
  obtain ⟨c, hc⟩ : ∃ c, choice s row above 5 0 (0, -1) = c := ⟨_, rfl⟩
  rw [hc] at hb e1
  obtain ⟨b1, b2, b3, b4⟩ := hb
  have k1 := chk_ok (k := c.1) s1.1 s1.2 b2 b3
  have k2 := chk_ok (k := o) s1.1 s1.2 (by omega) (by omega)
  obtain ⟨K2, e2⟩ := ev_weight (res c.1 s row above false) (res_bytes c.1 s row above false) (by rw [res_len]; exact l1')
  obtain ⟨K4, e4⟩ := ev_weight (res o s row above false) (res_bytes o s row above false) (by rw [res_len]; exact l1')
  obtain ⟨K3, e3⟩ := ev_fixed
  obtain ⟨K, hK⟩ : ∃ K, K1 + K2 + K3 + K4 = K := ⟨_, rfl⟩
  have f1 : filter_Choose.f (K + 1) row above s = some c := e1 (K + 1) (by omega)
  have f2 : halftoneref13_Weight.f (K + 1) (res c.1 s row above false) = some (wt (res c.1 s row above false)) := e2 (K + 1) (by omega)
  have f4 : halftoneref13_Weight.f (K + 1) (res o s row above false) = some (wt (res o s row above false)) := e4 (K + 1) (by omega)
  have f3 : halftonelaw13_fixed.f (K + 1) = _ := e3 (K + 1) (by omega)
  refine ⟨K + 1, ?_⟩
  unfold halftonelaw13_FilterBest.f
  rw [f3, Option.bind_some, if_pos rfl, hs, f1, Option.bind_some, do_eq c.1 s hr ha l1' l2, Option.bind_some, ans_ok _ _ _ k1, ho, do_eq o s hr ha l1' l2, Option.bind_some, ans_ok _ _ _ k2, if_pos b1, if_pos rfl, if_pos rfl, f2, Option.bind_some, f4, Option.bind_some, decide_eq_true (b4 o (by omega) (by omega))]
end Go.Proofs.Ytnnhbibbhcbkcaa.Lib
