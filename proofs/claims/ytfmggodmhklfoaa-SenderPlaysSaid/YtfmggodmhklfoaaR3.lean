/- the document's sender: Flight: walked by hand; how its items stand to the sender's. -/
import Derived.Test.YtfmggodmhklfoaaR2
namespace Go.Proofs.Ytfmggodmhklfoaa.Lib
open Go.RowKit Go.Shelf Go.Proofs.YtfmggodmhklfoaaW.PrintWords Go.Proofs.YtfmggodmhklfoaaW.PrintLast Go.Proofs.YtfmggodmhklfoaaW.PrintMore
set_option linter.unusedVariables false
set_option linter.unusedSimpArgs false
attribute [local go_sem] max2_int min2_int max_two min_two
/-- is the item on the way? -/
def flyR (xs : List S57) (i : Nat) : Bool := (xs.getD i z57).f0 && !(xs.getD i z57).f1
def flR (xs : List S57) (k : Nat) : Nat := ((List.range k).filter (flyR xs)).length
theorem flR_succ (xs : List S57) (k : Nat) : flR xs (k + 1) = flR xs k + if flyR xs k = true then 1 else 0 := by
  unfold flR
  rw [List.range_succ, List.filter_append, List.length_append]
  by_cases h : flyR xs k = true
  · rw [if_pos h]; simp [h]
  · rw [if_neg h]; simp [h]
theorem flR_le (xs : List S57) (k : Nat) : flR xs k ≤ k := by
  unfold flR
  exact Nat.le_trans (List.length_filter_le _ _) (by simp)
theorem k57_at {w : World} {A : Option Addr} {n : Nat} {xs : List S57} (h : Kd.C k57 w A n xs) (i : Nat) (hi : i < n) : ∃ ad, A = some ad ∧ w.cell? (ad.add (i * 5)) = some (.bool (xs.getD i z57).f0) ∧ w.cell? ⟨(ad.add (i * 5)).block, (ad.add (i * 5)).off + 1, none⟩ = some (.bool (xs.getD i z57).f1) ∧ w.cell? ⟨(ad.add (i * 5)).block, (ad.add (i * 5)).off + 2, none⟩ = some (.bool (xs.getD i z57).f2) ∧
    w.cell? ⟨(ad.add (i * 5)).block, (ad.add (i * 5)).off + 3, none⟩ = some (.int .i64 (xs.getD i z57).f3) ∧ w.cell? ⟨(ad.add (i * 5)).block, (ad.add (i * 5)).off + 4, none⟩ = some (.int .i64 (xs.getD i z57).f4) := by
  obtain ⟨ad, c, e, _, hK, hc0⟩ := Kd.C_get h z57 (i : Int) (by omega) (by omega)
  simp only [Int.toNat_natCast] at hK hc0
  have hc : ∀ j u, c[j]? = some u → w.cell? (ad.add (i * 5 + j)) = some u := hc0
  obtain rfl := k57_open hK
  exact ⟨ad, e, hc 0 _ rfl, by rw [← add_field _ _ 1 (by omega)]; exact hc 1 _ rfl, by rw [← add_field _ _ 2 (by omega)]; exact hc 2 _ rfl, by rw [← add_field _ _ 3 (by omega)]; exact hc 3 _ rfl, by rw [← add_field _ _ 4 (by omega)]; exact hc 4 _ rfl⟩
set_option maxRecDepth 100000 in
set_option maxHeartbeats 1000000 in
theorem rflight_walk {n₀ g : Nat} {c : Cfg} {nw : Int} {vs : Value} {xs : List S57} (w : World) (hI : IsRf w n₀ g c nw vs xs) (hm : xs.length ≤ 1048577) :
    Calls Try.prog 20 #[.pointer (some ⟨g, 0, none⟩)] w fun e w' => e = .returned (.int .i64 (flR xs xs.length : Nat)) ∧ Below w.heap.size w w' := by
  obtain ⟨A, cp, rfl, hcp, hA⟩ := hI.place
  have hc0 := blk_cell hI.blk 0
  have HR := Aside0.mk (Kd.Q_reads' hI.row).2.2
  have HA := Aside0.mk hA
  obtain ⟨m, hml⟩ : ∃ m, xs.length = m := ⟨_, rfl⟩
  rw [hml] at hc0 hm hcp HR ⊢
  have HM := Aside0.mk hml
  clear hI hA hml
  go_enter Try.func20, Try.ntmps20
  go_wp2
  go_loopw [11, 3] (fun i s wr => ∃ (k q : Nat), i = .int .i64 k ∧ s = .int .i64 q ∧ k ≤ m ∧ q ≤ k ∧ Aside0 (flR xs k = q) ∧ Aside0 (Below w.heap.size w wr)) (fun i _ _ => m - (intOf i).toNat)
  case atStart => exact ⟨0, 0, rfl, rfl, Nat.zero_le _, Nat.zero_le _, ⟨by simp [flR]⟩, ⟨Below.refl _ _⟩⟩
  case round =>
    obtain ⟨k, q, rfl, rfl, hk, hqk, HQ, HB⟩ := hrel
    by_cases hkm : k < m
    · obtain ⟨ad, rfl, hx0, hx1, hx2, hx3, hx4⟩ := k57_at (Kd.C_below HR.out HB.out) k hkm
      have hs := flR_succ xs k
      rw [HQ.out] at hs
      unfold flyR at hs
      obtain ⟨⟨f0, f1, f2, f3, f4⟩, hx⟩ : ∃ x, xs.getD k z57 = x := ⟨_, rfl⟩
      rw [hx] at hx0 hx1 hx2 hx3 hx4 hs
      simp only at hx0 hx1 hx2 hx3 hx4 hs
      clear hx
      have HS := Aside0.mk hs
      clear hs
      have HB2 := Aside0.mk (HB.out.alloc HB.out.size (.cells #[.bool f0, .bool f1, .bool f2, .int .i64 f3, .int .i64 f4] 57))
      rcases f0 with _ | _
      · go_wp2
        exact ⟨⟨k + 1, q, by push_cast; rfl, rfl, by omega, by omega, ⟨by simpa using HS.out⟩, HB2⟩, by simp [intOf]; omega⟩
      · rcases f1 with _ | _
        · go_wp2
          exact ⟨⟨k + 1, q + 1, by push_cast; rfl, by push_cast; rfl, by omega, by omega, ⟨by simpa using HS.out⟩, HB2⟩, by simp [intOf]; omega⟩
        · go_wp2
          exact ⟨⟨k + 1, q, by push_cast; rfl, rfl, by omega, by omega, ⟨by simpa using HS.out⟩, HB2⟩, by simp [intOf]; omega⟩
    · obtain rfl : k = m := by omega
      have hq := HQ.out
      have HQ2 := Aside0.mk hq
      clear hq
      go_wp2
      go_ret
      exact ⟨by rw [HQ2.out]; rfl, HB.out⟩
/-- how the document's items stand to the sender's -/
def upS (x : S54) : S57 := ⟨true, x.f0, x.f1, x.f2, x.f3⟩
structure Rel (n b : Nat) (its : List S54) (xs : List S57) : Prop where
  len : xs.length = n
  fit : b + its.length ≤ n
  low : ∀ i, i < b → (xs.getD i z57).f0 = true ∧ (xs.getD i z57).f1 = true
  mid : ∀ t, t < its.length → xs.getD (b + t) z57 = upS (its.getD t z54)
  high : ∀ i, b + its.length ≤ i → xs.getD i z57 = z57
theorem getD_set_R (l : List S57) (i j : Nat) (x : S57) : (l.set i x).getD j z57 = if i = j ∧ i < l.length then x else l.getD j z57 := by
  rw [List.getD_eq_getElem?_getD, List.getElem?_set, List.getD_eq_getElem?_getD]
  by_cases h : i = j
  · subst h
    by_cases h2 : i < l.length
    · simp [h2]
    · simp [h2]
  · simp [h]
theorem Rel.new (n : Nat) : Rel n 0 [] (List.replicate n z57) := by
  refine ⟨by simp, by simp, fun i h => absurd h (Nat.not_lt_zero _), fun t h => absurd h (Nat.not_lt_zero _), fun i _ => ?_⟩
  rw [List.getD_eq_getElem?_getD, List.getElem?_replicate]
  split <;> rfl
theorem Rel.set {n b : Nat} {its : List S54} {xs : List S57} (h : Rel n b its xs) (t : Nat) (ht : t < its.length) (x : S54) : Rel n b (its.set t x) (xs.set (b + t) (upS x)) := by
  have hl := h.len
  have hf := h.fit
  refine ⟨by simp [hl], by simpa using hf, fun i hi => ?_, fun j hj => ?_, fun i hi => ?_⟩
  · rw [getD_set_R, if_neg (by omega)]; exact h.low i hi
  · rw [List.length_set] at hj
    rw [getD_set_R, getD_set_S]
    by_cases e : t = j
    · rw [if_pos ⟨by omega, by omega⟩, if_pos ⟨e, ht⟩]
    · rw [if_neg (by omega), if_neg (fun h => e h.1)]; exact h.mid j hj
  · rw [List.length_set] at hi
    rw [getD_set_R, if_neg (by omega)]; exact h.high i hi
theorem Rel.snoc {n b : Nat} {its : List S54} {xs : List S57} (h : Rel n b its xs) (hn : b + its.length < n) (x : S54) : Rel n b (its ++ [x]) (xs.set (b + its.length) (upS x)) := by
  have hl := h.len
  have hf := h.fit
  refine ⟨by simp [hl], by simp; omega, fun i hi => ?_, fun j hj => ?_, fun i hi => ?_⟩
  · rw [getD_set_R, if_neg (by omega)]; exact h.low i hi
  · simp only [List.length_append, List.length_singleton] at hj
    rw [getD_set_R]
    by_cases e : j = its.length
    · subst e
      rw [if_pos ⟨rfl, by omega⟩, getD_app_r _ _ _ (Nat.le_refl _), Nat.sub_self]
      rfl
    · rw [if_neg (by omega), getD_app_l _ _ _ (by omega)]; exact h.mid j (by omega)
  · simp only [List.length_append, List.length_singleton] at hi
    rw [getD_set_R, if_neg (by omega)]; exact h.high i (by omega)
/-- the base -/
theorem Rel.lo {n b : Nat} {its : List S54} {xs : List S57} (h : Rel n b its xs) : ∀ i, i < b → (xs.getD i z57).f1 = true := fun i hi => (h.low i hi).2
theorem Rel.at_ {n b : Nat} {its : List S54} {xs : List S57} (h : Rel n b its xs) (hh : (its.getD 0 z54).f0 = false) : b < xs.length → (xs.getD b z57).f1 = false := by
  intro _
  by_cases h0 : 0 < its.length
  · have := h.mid 0 h0
    rw [Nat.add_zero] at this
    rw [this]
    exact hh
  · rw [h.high b (by omega)]
    rfl
theorem Rel.fly {n b : Nat} {its : List S54} {xs : List S57} (h : Rel n b its xs) : flR xs n = (opensTo its its.length).length := by
  have h1 : ∀ k, k ≤ b → flR xs k = 0 := by
    intro k hk
    unfold flR
    rw [List.filter_eq_nil_iff.2]
    · rfl
    · intro i hi
      have := h.low i (by have := List.mem_range.1 hi; omega)
      unfold flyR
      simp [this.2, -List.getD_eq_getElem?_getD]
  have h2 : ∀ k, k ≤ its.length → flR xs (b + k) = (opensTo its k).length := by
    intro k
    induction k with
    | zero => intro _; rw [Nat.add_zero, h1 b (Nat.le_refl _)]; rfl
    | succ k ih =>
      intro hk
      rw [← Nat.add_assoc, flR_succ, ih (by omega), opensTo_succ, List.length_append]
      have hm := h.mid k (by omega)
      unfold flyR
      rw [hm]
      simp only [upS, Bool.true_and]
      cases (its.getD k z54).f0 <;> simp
  have h3 : ∀ k, flR xs (b + its.length + k) = (opensTo its its.length).length := by
    intro k
    induction k with
    | zero => rw [Nat.add_zero, h2 _ (Nat.le_refl _)]
    | succ k ih =>
      rw [← Nat.add_assoc, flR_succ, ih]
      have hm := h.high (b + its.length + k) (by omega)
      unfold flyR
      rw [hm]
      rfl
  have := h3 (n - (b + its.length))
  rwa [show b + its.length + (n - (b + its.length)) = n by have := h.fit; omega] at this
end Go.Proofs.Ytfmggodmhklfoaa.Lib
