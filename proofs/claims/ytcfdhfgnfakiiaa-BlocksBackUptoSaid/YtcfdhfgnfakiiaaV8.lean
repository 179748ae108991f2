/- BlocksBack: what is packed is told as it was: plain lists, and the walk. -/
import Derived.Test.YtcfdhfgnfakiiaaV7
import Derived.Test.YtcfdhfgnfakiiaaABlocksPacks
namespace Go.Proofs.Ytcfdhfgnfakiiaa.Lib
open Go.RowKit Go.Proofs.YtcfdhfgnfakiiaaW.PrintWords Go.Proofs.YtcfdhfgnfakiiaaW.PrintLast Go.Proofs.YtcfdhfgnfakiiaaW.PrintMore
attribute [local go_sem] max2_int min2_int max_two min_two
/-- the blocks of these bytes -/
def pk (l : List Int) (s : Nat) : List Int := packed l (cutList l.length s) ++ [0]
theorem pk_nil (s : Nat) (hs : 1 ≤ s) : pk [] s = [0] := by
  unfold pk
  rw [List.length_nil, cutList_zero s hs]
  rfl
theorem pk_pos (l : List Int) (s : Nat) (hs : 1 ≤ s) (hm : 0 < l.length) : pk l s = ((min s l.length : Nat) : Int) :: (l.take (min s l.length) ++ pk (l.drop (min s l.length)) s) := by
  unfold pk
  rw [packed_pos l s hs hm]
  simp
theorem pk_tells (s : Nat) (hs : 1 ≤ s) (d : Nat) : ∀ (l : List Int) (b : Int), l.length ≤ d → pushL 0 b false (pk l s) = (l, 0, b + (pk l s).length, true, []) := by
  induction d with
  | zero =>
    intro l b hl
    obtain rfl := List.length_eq_zero_iff.1 (by omega : l.length = 0)
    rw [pk_nil s hs]
    rfl
  | succ d ih =>
    intro l b hl
    by_cases h : l.length = 0
    · exact ih l b (by omega)
    · obtain ⟨q, hq⟩ : ∃ q, min s l.length = q := ⟨_, rfl⟩
      have hp := pk_pos l s hs (by omega)
      rw [hq] at hp
      have hq1 : 1 ≤ q ∧ q ≤ l.length := by omega
      rw [hp, pushL_neg (by omega)]
      have e0 : ((q : Int) == 0) = false := by simp; omega
      have hl1 : (l.take q).length = q := by simp; omega
      rw [e0, pushL_take]
      have e1 : (l.take q ++ pk (l.drop q) s).take q = l.take q := List.take_left' hl1
      have e2 : (l.take q ++ pk (l.drop q) s).drop q = pk (l.drop q) s := List.drop_left' hl1
      have e3 : min q (l.take q ++ pk (l.drop q) s).length = q := by rw [List.length_append, hl1]; omega
      rw [e1, e2, e3, Nat.sub_self, show ((0 : Nat) : Int) = 0 from rfl, ih (l.drop q) (b + 1 + q) (by simp; omega)]
      simp only [List.take_append_drop, List.length_cons, List.length_append, hl1, Prod.mk.injEq, true_and, and_true]
      push_cast
      omega
theorem pk_bytes (s : Nat) (hs : 1 ≤ s) (hs2 : s ≤ 255) (d : Nat) : ∀ (l : List Int), l.length ≤ d → BytesB l → BytesB (pk l s) ∧ (pk l s).length ≤ 2 * l.length + 1 := by
  induction d with
  | zero =>
    intro l hl _
    obtain rfl := List.length_eq_zero_iff.1 (by omega : l.length = 0)
    rw [pk_nil s hs]
    exact ⟨fun x hx => by simp at hx; omega, by simp⟩
  | succ d ih =>
    intro l hl hB
    by_cases h : l.length = 0
    · exact ih l (by omega) hB
    · have hp := pk_pos l s hs (by omega)
      obtain ⟨q, hq⟩ : ∃ q, min s l.length = q := ⟨_, rfl⟩
      rw [hq] at hp
      have hq1 : 1 ≤ q ∧ q ≤ l.length := by omega
      obtain ⟨h1, h2⟩ := ih (l.drop q) (by simp; omega) (fun x hx => hB x (List.mem_of_mem_drop hx))
      rw [hp]
      refine ⟨fun x hx => ?_, ?_⟩
      · rcases List.mem_cons.1 hx with e | e
        · omega
        · rcases List.mem_append.1 e with e | e
          · exact hB x (List.mem_of_mem_take e)
          · exact h1 x e
      · simp only [List.length_cons, List.length_append, List.length_take, List.length_drop] at h2 ⊢
        omega
/-- ahead of the last byte it isn't done -/
theorem pk_open (s : Nat) (hs : 1 ≤ s) (l : List Int) (i : Nat) (hi : i < (pk l s).length) : (PP ((pk l s).take i)).2.2.2.1 = false := by
  have h := pk_tells s hs l.length l 0 (Nat.le_refl _)
  have e : pk l s = (pk l s).take i ++ (pk l s).drop i := (List.take_append_drop _ _).symm
  cases hd : (PP ((pk l s).take i)).2.2.2.1 with
  | false => rfl
  | true =>
    rw [e, pushL_append] at h
    have hr := congrArg (fun z => z.2.2.2.2) h
    have hd' : (pushL 0 0 false ((pk l s).take i)).2.2.2.1 = true := hd
    simp only [hd', pushL_true] at hr
    have := congrArg List.length hr
    simp at this
    omega
end Go.Proofs.Ytcfdhfgnfakiiaa.Lib
