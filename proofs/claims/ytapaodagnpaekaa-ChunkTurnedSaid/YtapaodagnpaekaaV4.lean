/- chunk: the reader's state; hold: walked by hand. -/
import Derived.Test.YtapaodagnpaekaaV3
namespace Go.Proofs.Ytapaodagnpaekaa.Lib
open Go.RowKit Go.Proofs.YtapaodagnpaekaaW.PrintWords Go.Proofs.YtapaodagnpaekaaW.PrintLast Go.Proofs.YtapaodagnpaekaaW.PrintMore
attribute [local go_sem] max2_mx min2_mn max_two min_two
set_option linter.unusedVariables false
set_option linter.unusedSimpArgs false
/-- a reader -/
structure RS where
  st : Int
  held : List Int
  kind : ByteArray
  size : Int
  left : Int
  sum : Int
  e : Int
def RS.new : RS := ⟨0, [], ⟨#[]⟩, 0, 0, 0, 0⟩
/-- a reader in memory; hv: the slice of what is held -/
structure IsRd (W : World) (n₀ g : Nat) (hv : Value) (r : RS) : Prop where
  blk : W.heap[g]? = some (.cells #[.int .i64 r.st, hv, .string r.kind, .int .i64 r.size, .int .i64 r.left, .int .u32 r.sum, .int .i64 r.e] 59 (0, 0))
  row : Kd.R (Kd.int .u8) 5 W n₀ (fun _ => True) hv r.held
  ge : n₀ ≤ g
/-- its blocks -/
def RdS (g : Nat) (hv : Value) : Nat → Prop := fun k => k = g ∨ hv.ownBlock = some k
theorem IsRd.ext {W W1 : World} {n₀ g : Nat} {hv : Value} {r : RS} (h : IsRd W n₀ g hv r) (hb : Below W.heap.size W W1) : IsRd W1 n₀ g hv r := ⟨blk_below h.blk hb, Kd.R_below h.row hb, h.ge⟩
theorem IsRd.lt {W : World} {n₀ g : Nat} {hv : Value} {r : RS} (h : IsRd W n₀ g hv r) : ∀ k, RdS g hv k → n₀ ≤ k ∧ k < W.heap.size := by
  rintro k (rfl | e)
  · exact ⟨h.ge, blk_lt h.blk⟩
  · exact ⟨Kd.R_base h.row k e, Kd.R_lt h.row k e⟩
/-- what hold tells -/
def HoldP (W : World) (n₀ g : Nat) (hv : Value) (r : RS) (n : Nat) (A : Option Addr) (m c : Nat) (bs : List Int) (e : Ending) (w' : World) : Prop :=
  ∃ hv' A', e = .returned (.tuple #[.slice A' (m - min (n - r.held.length) m) (c - min (n - r.held.length) m), .bool ((r.held.length : Int) + (min (n - r.held.length) m : Nat) == (n : Int))]) ∧
    IsRd w' n₀ g hv' { r with held := r.held ++ bs.take (min (n - r.held.length) m) } ∧ (∀ W', Kd.C (Kd.int .u8) W' A m bs → Kd.C (Kd.int .u8) W' A' (m - min (n - r.held.length) m) (bs.drop (min (n - r.held.length) m))) ∧
    Kept W w' (RdS g hv) ∧ Below n₀ W w' ∧ (hv'.ownBlock = hv.ownBlock ∨ ∃ b, hv'.ownBlock = some b ∧ W.heap.size ≤ b)
theorem kept_grown {W w1 : World} {row : Option Nat} {S : Nat → Prop} (hg : W.grownBy w1 row) (hS : ∀ k, row = some k → S k) : Kept W w1 S := Kept.of_grown hg (Kept.refl W S) (fun k hk => .inl (hS k hk))
theorem kept_set {W w1 : World} {S : Nat → Prop} (h : Kept W w1 S) {p : Addr} (hS : S p.block) (v : Value) : Kept W (w1.setCell p v) S := h.setCell (.inl hS) v
theorem fact_hold {hl m n k : Nat} (hk : min (n - hl) m = k) (hn : hl ≤ n) : mn ((n : Int) - (hl : Int)) (m : Int) = (k : Int) := by
  unfold mn
  split <;> omega
set_option maxHeartbeats 2000000 in
set_option maxRecDepth 100000 in
theorem hold_walk {W : World} {n₀ g : Nat} {hv : Value} {r : RS} (h : IsRd W n₀ g hv r) (hn₀ : n₀ ≤ W.heap.size) (n : Nat) (hn8 : n ≤ 8) (hhl : r.held.length ≤ n) (A : Option Addr) (m c : Nat) (bs : List Int) (hm : bs.length = m) (hmc : m ≤ c) (hC : Kd.C (Kd.int .u8) W A m bs) (hms : m ≤ 140737488351232) :
    Calls Try.prog 21 #[.pointer (some ⟨g, 0, none⟩), .slice A m c, .int .i64 n] W fun e w' => HoldP W n₀ g hv r n A m c bs e w' := by
  have H := Aside0.mk h
  obtain ⟨Ah, ch, rfl⟩ := Kd.R_slice h.row
  obtain ⟨hl, hhl2⟩ : ∃ hl, r.held.length = hl := ⟨_, rfl⟩
  have HHL := Aside0.mk hhl2
  rw [hhl2] at H hhl ⊢
  obtain ⟨k, hk⟩ : ∃ k, min (n - hl) m = k := ⟨_, rfl⟩
  have HK := Aside0.mk hk
  have hmn := fact_hold hk hhl
  have hkm : k ≤ m := by omega
  have hkn : k ≤ n - hl := by omega
  have HC := Aside0.mk hC
  have HMM := Aside0.mk hm
  have HN0 := Aside0.mk hn₀
  have hx1 := blk_cell H.out.blk 1
  obtain ⟨i5, hi5, hz5⟩ := Option.map_eq_some_iff.1 info5
  have hsz5 : i5.size = 1 := by simp only [Prod.mk.injEq] at hz5; exact hz5.2.1
  have hct := cut_to (P := Try.prog) 26 5 .i64 Try.underlying26 hi5 A m c (k : Int) (by omega) (by omega) hmc
  obtain ⟨A', hA'⟩ : ∃ A', (if c = k then A else A.map (·.add (k * 1))) = A' := ⟨_, rfl⟩
  have hcf := cut_from (P := Try.prog) 26 5 .i64 Try.underlying26 hi5 1 hsz5 A m c (k : Int) (by omega) (by omega)
  rw [Int.toNat_natCast] at hct hcf
  rw [hA'] at hcf
  have HT := Aside0.mk (show ∀ W', Kd.C (Kd.int .u8) W' A m bs → Kd.C (Kd.int .u8) W' A k (bs.take k) ∧ Kd.C (Kd.int .u8) W' A' (m - k) (bs.drop k) from fun W' h => by
    subst hm
    have h1 := Kd.C_take h (m := k) hkm
    have h2 := Kd.C_drop h (m := k) (c := c) hkm hmc
    rw [List.length_take, Nat.min_eq_left hkm] at h1
    rw [List.length_drop, show (Kd.int .u8).sz = 1 from rfl, hA'] at h2
    exact ⟨h1, h2⟩)
  have HL8 := Aside0.mk (show (r.held ++ bs.take k).length = hl + k from by rw [List.length_append, List.length_take, hhl2, hm]; omega)
  have HZ := Aside0.mk (show (r.held.length + k) * 1 ≤ 140737488355328 from by omega)
  have hlk0 : (0 : Int) ≤ (hl : Int) := by omega
  have hcm : (k : Int) ≤ (m : Int) := by omega
  clear h hC hm hA' hi5 hz5 hsz5 hk hhl2 hn₀
  go_enter Try.func21, Try.ntmps21
  go_wp2
  refine start_ (n := 12) (S := fun w' => w'.cell? ⟨g, 1, none⟩ = some (.slice Ah hl ch)) (ds := [11]) #[false, false, false, false, false, false, false, false, false, false, false, false] (by kernel_rfl) rfl rfl hx1 (fun hHeld => ?_)
  have HR4 := Aside0.mk (Kd.R_drew H.out.row)
  have HX4 := Aside0.mk (show W.drew.heap[g]? = some (.cells #[.int .i64 r.st, .slice Ah hl ch, .string r.kind, .int .i64 r.size, .int .i64 r.left, .int .u32 r.sum, .int .i64 r.e] 59 (0, 0)) from blk_drew H.out.blk)
  have HT4 := Aside0.mk (HT.out _ (Kd.C_drew HC.out)).1
  have HN4 := Aside0.mk (show n₀ ≤ W.drew.heap.size from HN0.out)
  have HKW := Aside0.mk (show Kept W W.drew (RdS g (.slice Ah hl ch)) from Kept.of_below (below_drew (Below.refl _ _)) _)
  have HBW := Aside0.mk (show Below n₀ W W.drew from below_drew (Below.refl _ _))
  have hsz4 : W.drew.heap.size = W.heap.size := rfl
  have HS4 := Aside0.mk hsz4
  clear hsz4
  generalize W.drew = W4 at hHeld HR4 HX4 HT4 HN4 HKW HBW HS4 ⊢
  refine pure_ (i := 0) (N := some 19) (v := ?_) (a' := ?_) #[true, false, false, false, false, false, false, false, false, false, false, false] rfl rfl (by kernel_rfl) (fun _ _ _ h => h) (Or.inl ⟨by rfl, ?_⟩) ?_ ?_
  rotate_left
  · intro w'
    go_simp
    with_reducible rfl
  rotate_left
  · simp only [Act.put, List.setIfInBounds_toArray, List.set_cons_zero, List.set_cons_succ, i64_w, i32_w]
    rfl
  refine pure_ (i := 1) (N := some 20) (v := ?_) (a' := ?_) #[true, true, false, false, false, false, false, false, false, false, false, false] rfl rfl (by kernel_rfl) (fun _ _ _ h => h) (Or.inl ⟨by rfl, ?_⟩) ?_ ?_
  rotate_left
  · intro w'
    go_simp
    with_reducible rfl
  rotate_left
  · simp only [Act.put, List.setIfInBounds_toArray, List.set_cons_zero, List.set_cons_succ, i64_w, i32_w]
    rfl
  refine pure_ (i := 2) (N := some 21) (v := ?_) (a' := ?_) #[true, true, true, false, false, false, false, false, false, false, false, false] rfl rfl (by kernel_rfl) (fun _ _ _ h => h) (Or.inl ⟨by rfl, ?_⟩) ?_ ?_
  rotate_left
  · intro w'
    go_simp
    with_reducible rfl
  rotate_left
  · simp only [Act.put, List.setIfInBounds_toArray, List.set_cons_zero, List.set_cons_succ, i64_w, i32_w]
    rfl
  refine pure_ (i := 3) (N := some 22) (v := ?_) (a' := ?_) #[true, true, true, true, false, false, false, false, false, false, false, false] rfl rfl (by kernel_rfl) (fun _ _ _ h => h) (Or.inl ⟨by rfl, ?_⟩) ?_ ?_
  rotate_left
  · intro w'
    go_simp
    with_reducible rfl
  rotate_left
  · simp only [Act.put, List.setIfInBounds_toArray, List.set_cons_zero, List.set_cons_succ, i64_w, i32_w]
    rfl
  refine pure_ (i := 5) (N := some 24) (v := ?_) (a' := ?_) #[true, true, true, true, false, true, false, false, false, false, false, false] rfl rfl (by kernel_rfl) (fun _ _ _ h => h) (Or.inl ⟨by rfl, ?_⟩) ?_ ?_
  rotate_left
  · intro w'
    go_simp
    with_reducible rfl
  rotate_left
  · simp only [Act.put, List.setIfInBounds_toArray, List.set_cons_zero, List.set_cons_succ, i64_w, i32_w]
    rfl
  refine pure_ (i := 6) (N := some 25) (v := ?_) (a' := ?_) #[true, true, true, true, false, true, true, false, false, false, false, false] rfl rfl (by kernel_rfl) (fun _ _ _ h => h) (Or.inl ⟨by rfl, ?_⟩) ?_ ?_
  rotate_left
  · intro w'
    go_simp
    with_reducible rfl
  rotate_left
  · simp only [Act.put, List.setIfInBounds_toArray, List.set_cons_zero, List.set_cons_succ, i64_w, i32_w]
    rfl
  refine take_ (i := 4) (N := some 23) (v := ?_) (a' := ?_) #[true, true, true, true, true, true, true, false, false, false, false, false] rfl rfl (by kernel_rfl) (fun _ _ _ h => h) (Or.inl ⟨by rfl, ?_⟩) hHeld ?_ ?_
  rotate_left
  · intro w' s0
    go_simp
    with_reducible rfl
  rotate_left
  · simp only [Act.put, List.setIfInBounds_toArray, List.set_cons_zero, List.set_cons_succ, i64_w, i32_w]
    rfl
  refine pure_ (i := 7) (N := some 26) (v := ?_) (a' := ?_) #[true, true, true, true, true, true, true, true, false, false, false, false] rfl rfl (by kernel_rfl) (fun _ _ _ h => h) (Or.inl ⟨by rfl, ?_⟩) ?_ ?_
  rotate_left
  · intro w'
    go_simp
    with_reducible rfl
  rotate_left
  · simp only [Act.put, List.setIfInBounds_toArray, List.set_cons_zero, List.set_cons_succ, i64_w, i32_w]
    rfl
  refine one_ (i := 8) (N := some 27) #[true, true, true, true, true, true, true, true, true, false, false, false] rfl rfl (by kernel_rfl) (by decide) (fun K hK => ?_)
  refine Kd.R_append_rows_step (Kd.int .u8) (w0 := W4) n₀ (by rfl) (.tmp 23) (.tmp 26) 26 5 (.int .u8 0) 1 rfl Try.underlying26 info5 rfl (by decide) (by decide) (.slice Ah hl ch) r.held (bs.take k) A k c (fun _ => True) (fun _ => False) (by rfl) (by rfl) HR4.out HT4.out (fun _ _ h => h) (fun _ h => h.elim) (fun _ _ => trivial) (Below.refl _ _) HN4.out HZ.out ?_
  intro v8 w8 hR8 hb8 hg8 hat8
  obtain ⟨A8, c8, rfl, hR8⟩ := row_form HL8.out hR8
  have hx8 := blk_grown HX4.out hg8 (Kd.R_ne HR4.out HX4.out (by decide))
  have hm1 := blk_cell hx8 1
  have hm1f := blk_frozen hx8 1
  refine hK.out _ _ (blk_cell hx8 1) (fun hHeld3 => ?_)
  clear hK K
  refine norm_ (a' := ?_) ?_ ?_
  rotate_left
  · show Act.put _ (some 27) _ = _
    simp only [Act.put, List.setIfInBounds_toArray, List.set_cons_zero, List.set_cons_succ, i64_w, i32_w]
    rfl
  refine pure_ (i := 9) (N := some 28) (v := ?_) (a' := ?_) #[true, true, true, true, true, true, true, true, true, true, false, false] rfl rfl (by kernel_rfl) (fun _ _ _ h => h) (Or.inl ⟨by rfl, ?_⟩) ?_ ?_
  rotate_left
  · intro w'
    go_simp
    with_reducible rfl
  rotate_left
  · simp only [Act.put, List.setIfInBounds_toArray, List.set_cons_zero, List.set_cons_succ, i64_w, i32_w]
    rfl
  refine pure_ (i := 10) (N := some 29) (v := ?_) (a' := ?_) #[true, true, true, true, true, true, true, true, true, true, true, false] rfl rfl (by kernel_rfl) (fun _ _ _ h => h) (Or.inl ⟨by rfl, ?_⟩) ?_ ?_
  rotate_left
  · intro w'
    go_simp
    with_reducible rfl
  rotate_left
  · simp only [Act.put, List.setIfInBounds_toArray, List.set_cons_zero, List.set_cons_succ, i64_w, i32_w]
    rfl
  refine last_ (i := 11) (N := none) #[true, true, true, true, true, true, true, true, true, true, true, true] rfl rfl (by kernel_rfl) (by decide) (fun K hK => ?_)
  refine skip_ (w1 := ?_) (by rfl) rfl ?_ ?_
  rotate_left
  · go_simp
    rfl
  refine hK.out _ _ ?_
  clear hK K
  refine done_ (by kernel_rfl) ?_
  have hx9 := blk_set hx8 1 (.slice A8 (hl + k) c8)
  have hq1 := blk_cell hx9 1
  have hKW2 := fun (hg : W4.grownBy w8 (Value.slice Ah hl ch).ownBlock) => HKW.out.then_ (kept_grown hg (S := RdS g (.slice Ah hl ch)) (fun k hk => .inr hk)) (fun k hk => .inl hk)
  have hBW2 := fun (hb : Below n₀ W4 w8) => HBW.out.trans hb
  go_wp2
  go_quiet (fail)
  go_wp2
  go_ret2
  unfold HoldP
  rw [HHL.out, HK.out]
  refine ⟨.slice A8 (hl + k) c8, A', ?_, ⟨?_, ?_, H.out.ge⟩, fun W' h => (HT.out W' h).2, ?_, ?_, ?_⟩
  · rfl
  · show (w8.setCell _ _).heap[g]? = _
    simpa using hx9
  · exact Kd.R_set hR8 hx8 (by decide) 1 _
  · have h1 := kept_set (hKW2 hg8) (p := ⟨g, 1, none⟩) (.inl rfl) (.slice A8 (hl + k) c8)
    exact ⟨h1.1, h1.2⟩
  · have h1 := (hBW2 hb8).setCell (p := ⟨g, 1, none⟩) H.out.ge (.slice A8 (hl + k) c8)
    exact ⟨h1.os, h1.tape, h1.output, h1.size, h1.block⟩
  · rcases hat8 with h | ⟨b, h, hb⟩
    · exact .inl h
    · exact .inr ⟨b, h, by rw [← HS4.out]; exact hb⟩
end Go.Proofs.Ytapaodagnpaekaa.Lib
