/- halftonelaw19.same: walked by hand. -/
import Derived.Test.YtmeafgoifekffaaV13
namespace Go.Proofs.Ytmeafgoifekffaa.Lib
open Go.RowKit Go.Shelf Go.Proofs.YtmeafgoifekffaaW.PrintWords Go.Proofs.YtmeafgoifekffaaW.PrintLast Go.Proofs.YtmeafgoifekffaaW.PrintMore
attribute [local go_sem high] eqA45
attribute [local go_sem] max2_mx min2_mn max_two min_two
set_option linter.unusedVariables false
set_option linter.unusedSimpArgs false
/-- what isn't known has no colour -/
def Blank (ps : List S45) (ks : List Bool) : Prop := ∀ i, ks.getD i false = false → ps.getD i z45 = z45
theorem place_div {x y n k : Nat} (hn : x * y = n) (hx : 0 < x) (hk : k < n) : placeL x y ((k % x : Nat) : Int) ((k / x : Nat) : Int) = k := by
  have h1 : k % x < x := Nat.mod_lt _ hx
  have h2 : k / x < y := Nat.div_lt_of_lt_mul (by omega)
  have h3 : x * (k / x) + k % x = k := Nat.div_add_mod k x
  obtain ⟨a, ha⟩ : ∃ a, k % x = a := ⟨_, rfl⟩
  obtain ⟨b, hb⟩ : ∃ b, k / x = b := ⟨_, rfl⟩
  rw [ha] at h1 h3 ⊢
  rw [hb] at h2 h3 ⊢
  unfold placeL
  rw [if_pos ⟨by omega, by omega, by omega, by omega⟩]
  have h4 : (b : Int) * (x : Int) = ((x * b : Nat) : Int) := by rw [Nat.mul_comm]; push_cast; rfl
  rw [h4]
  omega
theorem at_div {x y n k : Nat} {ps : List S45} {ks : List Bool} (hn : x * y = n) (hx : 0 < x) (hk : k < n) (hB : Blank ps ks) : atL x y ps ks ((k % x : Nat) : Int) ((k / x : Nat) : Int) = (ps.getD k z45, ks.getD k false) := by
  unfold atL
  rw [place_div hn hx hk]
  simp only [Int.toNat_natCast]
  cases hb : ks.getD k false with
  | true => rw [if_pos ⟨by omega, rfl⟩]
  | false => rw [if_neg (by simp), hB k hb]
theorem at_k {W : World} {n₀ : Nat} {c : Cv} {cnt : Nat} {ps : List S45} {ks : List Bool} (h : IsCv W n₀ c cnt ps ks) (hB : Blank ps ks) {k a b : Nat} (hk : k < c.n) (ha : k % c.x = a) (hb : k / c.x = b) {px : S45} {m : Bool} (hp : ps.getD k z45 = px) (hm : ks.getD k false = m) :
    Calls Try.prog 24 #[.pointer (some ⟨c.g, 0, none⟩), .int .i64 a, .int .i64 b] W fun e w' => e = .returned (.tuple #[.agg #[.int .u16 px.f0, .int .u16 px.f1, .int .u16 px.f2, .int .u16 px.f3], .bool m]) ∧ Below W.heap.size W w' := by
  subst ha hb hp hm
  have h1 := at_walk h ((k % c.x : Nat) : Int) ((k / c.x : Nat) : Int)
  rw [at_div (x := c.x) (y := c.y) (n := c.n) rfl (by have := h.sz; omega) hk hB] at h1
  exact h1
theorem bool_at {w : World} {A : Option Addr} {n : Nat} {xs : List Bool} (h : Kd.C Kd.bool w A n xs) (i : Nat) (hi : i < n) : ∃ ad, A = some ad ∧ w.cell? (ad.add i) = some (.bool (xs.getD i false)) := by
  obtain ⟨ad, c, e, _, hK, hc⟩ := Kd.C_get h false (i : Int) (by omega) (by omega)
  have e1 : c = [.bool (xs.getD i false)] := by
    rw [Int.toNat_natCast] at hK
    exact hK
  subst e1
  refine ⟨ad, e, ?_⟩
  have := hc 0 _ rfl
  rw [show (Kd.bool).sz = 1 from rfl] at this
  simpa using this
theorem rc_pix {W : World} {n₀ : Nat} {c : Cv} {ps : List S45} {ks : List Bool} (h : IsRc W n₀ c ps ks) : Kd.C k45 W (some ⟨c.gp, 0, none⟩) c.n ps := by
  have h1 := (Kd.R_reads' h.pix).2.2
  rw [← h.lp] at h1
  exact h1
theorem wrap64_in' {x : Int} (h1 : -9223372036854775808 ≤ x) (h2 : x ≤ 9223372036854775807) : wrap64 x = x := by
  unfold wrap64; omega
/-- Same, of images that are the same -/
theorem same_l0 (x y : Int) (l : List S45) (hl : l.length ≤ 4611686018427387904) : ∀ (m i : Nat), i + m = l.length → ∀ k, m < k → halftoneref15_Same.l0 k (l.length : Int) (i : Int) x y l x y l = some true
  | 0, i, h, k + 1, _ => by
    rw [halftoneref15_Same.l0, if_neg (by omega)]
  | m + 1, i, h, k + 1, hk => by
    rw [halftoneref15_Same.l0, if_pos (by omega), if_pos (by omega), if_pos (by omega), if_pos (by omega), if_neg (by simp), wrap64_in' (by omega) (by omega)]
    have := same_l0 x y l hl m (i + 1) (by omega) k (by omega)
    push_cast at this
    exact this
theorem same_f (x y : Int) (l : List S45) (hl : l.length ≤ 4611686018427387904) : halftoneref15_Same.f (l.length + 2) x y l x y l = some true := by
  rw [halftoneref15_Same.f, if_pos rfl, if_pos rfl]
  rw [halftoneref15_Same.j0, if_neg (by simp)]
  exact same_l0 x y l hl l.length 0 (by omega) _ (by omega)
theorem same_img (W : World) (x y : Int) (l : List S45) {n : Nat} (hn : l.length = n) (hl : n ≤ 4611686018427387904) (A : Option Addr) (c : Nat) (A' : Option Addr) (c' : Nat) (h1 : Kd.C k45 W A n l) (h2 : n ≤ c) (h3 : Kd.C k45 W A' n l) (h4 : n ≤ c') :
    Calls Try.prog 14 #[.agg #[.int .i64 x, .int .i64 y, .slice A n c], .agg #[.int .i64 x, .int .i64 y, .slice A' n c']] W fun e w' => e = .returned (.bool true) ∧ Below W.heap.size W w' := by
  subst hn
  exact halftoneref15_Same.calls _ x y A c l x y A' c' l true W h1 h2 h3 h4 (same_f x y l hl)
end Go.Proofs.Ytmeafgoifekffaa.Lib
