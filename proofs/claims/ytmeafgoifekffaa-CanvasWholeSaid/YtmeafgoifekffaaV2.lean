/- canvas: At, Clone, Image, Mask, New: walked by hand. -/
import Derived.Test.YtmeafgoifekffaaV1
namespace Go.Proofs.Ytmeafgoifekffaa.Lib
open Go.RowKit Go.Proofs.YtmeafgoifekffaaW.PrintWords Go.Proofs.YtmeafgoifekffaaW.PrintLast Go.Proofs.YtmeafgoifekffaaW.PrintMore
attribute [local go_sem] max2_int min2_int max_two min_two
set_option linter.unusedVariables false
set_option linter.unusedSimpArgs false
def S45.val (x : S45) : Value := .agg #[.int .u16 x.f0, .int .u16 x.f1, .int .u16 x.f2, .int .u16 x.f3]
/-- a pixel, if it is known -/
def atL (x y : Nat) (ps : List S45) (ks : List Bool) (a b : Int) : S45 × Bool :=
  if 0 ≤ placeL x y a b ∧ ks.getD (placeL x y a b).toNat false = true then (ps.getD (placeL x y a b).toNat z45, true) else (z45, false)
theorem placeL_cases (x y n : Nat) (hn : x * y = n) (a b : Int) : placeL x y a b = -1 ∨ ∃ j : Nat, placeL x y a b = j ∧ j < n := by
  unfold placeL
  by_cases h : 0 ≤ a ∧ a < x ∧ 0 ≤ b ∧ b < y
  · obtain ⟨h1, h2, h3⟩ := place_in hn h
    rw [if_pos h]
    exact .inr ⟨(b * x + a).toNat, by omega, by omega⟩
  · rw [if_neg h]
    exact .inl rfl
set_option maxRecDepth 100000 in
theorem at_walk {W : World} {n₀ : Nat} {c : Cv} {cnt : Nat} {ps : List S45} {ks : List Bool} (h : IsCv W n₀ c cnt ps ks) (a b : Int) :
    Calls Try.prog 24 #[.pointer (some ⟨c.g, 0, none⟩), .int .i64 a, .int .i64 b] W fun e w' => e = .returned (.tuple #[(atL c.x c.y ps ks a b).1.val, .bool (atL c.x c.y ps ks a b).2]) ∧ Below W.heap.size W w' := by
  have H := Aside0.mk h
  have hc3 := blk_cell h.blk 3
  have hc4 := blk_cell h.blk 4
  have hn := h.sz.2.2.2.2
  have hgl := h.lt
  unfold atL
  rcases placeL_cases c.x c.y c.n rfl a b with e | ⟨j, e, hj⟩
  · rw [e]
    rw [if_neg (by omega)]
    have HE := Aside0.mk e
    clear h e
    go_enter Try.func24, Try.ntmps24
    go_wp2_with (go_at_call 26; refine (place_walk (H.out.alloc _) a b).mono ?_; rw [HE.out]; rintro e w' ⟨rfl, rfl⟩)
    exact bodyPost_ret (v := .tuple #[.agg #[.int .u16 0, .int .u16 0, .int .u16 0, .int .u16 0], .bool false]) (by simp [results, Try.results24, go_sem]) rfl ⟨rfl, (Below.refl _ _).alloc (Nat.le_refl _) _⟩
  · rw [e]
    obtain ⟨hm, _⟩ := h.mark j hj
    obtain ⟨⟨hp0, hp1, hp2, hp3⟩, _⟩ := h.pixel j hj
    simp only [Int.toNat_natCast]
    have HE := Aside0.mk e
    obtain ⟨px, hpx⟩ : ∃ px, ps.getD j z45 = px := ⟨_, rfl⟩
    rw [hpx] at hp0 hp1 hp2 hp3 ⊢
    clear h e hpx
    cases hk : ks.getD j false with
    | false =>
      rw [hk] at hm
      rw [if_neg (by simp)]
      clear hk hp0 hp1 hp2 hp3
      go_enter Try.func24, Try.ntmps24
      go_wp2_with (go_at_call 26; refine (place_walk (H.out.alloc _) a b).mono ?_; rw [HE.out]; rintro e w' ⟨rfl, rfl⟩)
      exact bodyPost_ret (v := .tuple #[.agg #[.int .u16 0, .int .u16 0, .int .u16 0, .int .u16 0], .bool false]) (by simp [results, Try.results24, go_sem]) rfl ⟨rfl, (Below.refl _ _).alloc (Nat.le_refl _) _⟩
    | true =>
      rw [hk] at hm
      rw [if_pos ⟨by omega, rfl⟩]
      clear hk
      go_enter Try.func24, Try.ntmps24
      go_wp2_with (go_at_call 26; refine (place_walk (H.out.alloc _) a b).mono ?_; rw [HE.out]; rintro e w' ⟨rfl, rfl⟩)
      exact bodyPost_ret (v := .tuple #[.agg #[.int .u16 px.f0, .int .u16 px.f1, .int .u16 px.f2, .int .u16 px.f3], .bool true]) (by simp [results, Try.results24, go_sem]) rfl ⟨rfl, (Below.refl _ _).alloc (Nat.le_refl _) _⟩
set_option maxRecDepth 100000 in
theorem at_nil (a b : Int) (W : World) :
    Calls Try.prog 24 #[.pointer none, .int .i64 a, .int .i64 b] W fun e w' => e = .returned (.tuple #[z45.val, .bool false]) ∧ Below W.heap.size W w' := by
  go_enter Try.func24, Try.ntmps24
  go_wp2_with (go_at_call 26; refine (place_nil a b _).mono ?_; rintro e w' ⟨rfl, rfl⟩)
  exact bodyPost_ret (v := .tuple #[.agg #[.int .u16 0, .int .u16 0, .int .u16 0, .int .u16 0], .bool false]) (by simp [results, Try.results24, go_sem]) rfl ⟨rfl, (Below.refl _ _).alloc (Nat.le_refl _) _⟩
end Go.Proofs.Ytmeafgoifekffaa.Lib
