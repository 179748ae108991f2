/- blocks.Pack: walked by hand: for every slice and size, the packed bytes; the size out of 1 to 255: the error alone. -/
import Derived.Test.YtcfdhfgnfakiiaaI
namespace Go.Proofs.Ytcfdhfgnfakiiaa.Lib
open Go.RowKit Go.Shelf Go.Proofs.YtcfdhfgnfakiiaaW.PrintWords Go.Proofs.YtcfdhfgnfakiiaaW.PrintMore
attribute [local go_sem] Oper.semAt_some
/-- the cuts as pairs -/
def cuts {m : Nat} (ys : List (Cut m)) : List (Nat × Nat) := ys.map (·.1)
/-- the bytes of the blocks that hold these cuts -/
def packed (l : List Int) (ys : List (Nat × Nat)) : List Int := ys.flatMap fun y => (y.2 : Int) :: (l.drop y.1).take y.2
theorem packed_snoc (l : List Int) (ys : List (Nat × Nat)) (y : Nat × Nat) : packed l (ys ++ [y]) = packed l ys ++ ((y.2 : Int) :: (l.drop y.1).take y.2) := by simp [packed]
theorem packed_length (l : List Int) (ys : List (Nat × Nat)) (h : ∀ y ∈ ys, y.2 ≤ 255) : (packed l ys).length ≤ 256 * ys.length := by
  induction ys with
  | nil => simp [packed]
  | cons y ys ih =>
    have h1 := ih (fun z hz => h z (List.mem_cons_of_mem _ hz))
    have h2 := h y List.mem_cons_self
    simp only [packed, List.flatMap_cons, List.length_append, List.length_cons, List.length_take] at h1 ⊢
    omega
theorem CutsOf.length_le {m s : Nat} {ys : List (Cut m)} (h : CutsOf m s ys) (hs : 1 ≤ s) : ys.length ≤ m := by
  obtain ⟨k, h1, _⟩ := h
  have hk : ys.length = k := by have := congrArg List.length h1; simpa using this
  rcases Nat.eq_zero_or_pos k with h0 | h0
  · omega
  · have e := congrArg (fun z => z[k - 1]?) h1
    simp only [List.getElem?_map] at e
    rw [List.getElem?_eq_getElem (by omega : k - 1 < ys.length), List.getElem?_range (by omega)] at e
    simp only [Option.map_some, Option.some.injEq] at e
    have hp := (ys[k - 1]'(by omega)).2
    rw [e] at hp
    dsimp only at hp
    have : (k - 1) * 1 ≤ (k - 1) * s := Nat.mul_le_mul_left _ hs
    omega
theorem keeps_of_own {X Y : World} {n₀ e size : Nat} {u : Value} {k' : Nat} {us : List Value} (hr : X.ownsRow n₀ e size u k' us) (hg : X.grownBy Y u.ownBlock) : KeepsOthers X Y := by
  refine KeepsOthers.of_grownBy hg fun j o ej hj => ?_
  rcases hr.2 with ⟨rfl, _⟩ | ⟨g, cap, cur, rfl, _, hgb, _⟩
  · simp [Value.ownBlock] at ej
  · obtain rfl : g = j := by simpa [Value.ownBlock] using ej
    rw [hgb] at hj; cases hj; rfl
theorem below_w1 {w W w1 : World} {B : Nat} {v v1 : Value} {k m : Nat} {xs ys : List Value} {tmp : Obj}
    (hv : Boxed W B 22 v) (hrow : W.ownsRow w.heap.size 5 1 v k xs) (hB : Below w.heap.size w W) (_hown1 : w1.ownsRow w.heap.size 5 1 v1 m ys) (hgrow1 : (W.alloc tmp).grownBy w1 v.ownBlock) : Below w.heap.size w w1 := by
  have _ := hv
  refine hB.trans (((Below.refl w.heap.size W).alloc hB.size tmp).grown hgrow1 (by have := hB.size; simp; omega) fun j ej => ?_)
  rcases hrow.2 with ⟨rfl, _⟩ | ⟨g, cap, cur, rfl, hb, _, _⟩
  · simp [Value.ownBlock] at ej
  · obtain rfl : g = j := by simpa [Value.ownBlock] using ej
    exact hb
theorem cut_cells {w w1 : World} {ad : Addr} {l : List Int} (hcells : ∀ j p, l[j]? = some p → w.cell? (ad.add j) = some (.int .u8 p)) (hb : Below w.heap.size w w1) (b q : Nat) :
    ∀ j u, (nums .u8 ((l.drop b).take q))[j]? = some u → w1.cell? ((ad.add b).add j) = some u := by
  intro j u hu
  simp only [nums, List.getElem?_map, Option.map_eq_some_iff] at hu
  obtain ⟨p, hp, rfl⟩ := hu
  have hp' : l[b + j]? = some p := by
    rw [List.getElem?_take] at hp
    split at hp
    · rwa [List.getElem?_drop] at hp
    · cases hp
  have h := hcells _ _ hp'
  have e : (ad.add b).add j = ad.add (b + j) := by by_cases hb0 : b = 0 <;> by_cases hj0 : j = 0 <;> simp [Addr.add, hb0, hj0, Nat.add_assoc]
  rw [e]
  obtain ⟨o, ho, _⟩ := cells_of_cell h
  exact (hb.cell (Array.getElem?_eq_some_iff.1 ho).1).trans h
theorem info5_ : (Try.prog.info? 5).map (fun i => (i.zero, i.size, i.bytes)) = some (some (.int .u8 0), 1, 1) := by kernel_rfl
set_option maxRecDepth 100000 in
set_option maxHeartbeats 2000000 in
theorem pack_in (F : Fence) (n : Nat) (h8 : F.fn 8) (h17 : F.fn 17) (h19 : F.fn 19) (hro : F.round = none) (hn : 3 ≤ n) (A : Option Addr) (c : Nat) (l : List Int) (s : Nat) (hs : 1 ≤ s) (hs2 : s ≤ 255) (w : World)
    (hr : Kd.C (Kd.int .u8) w A l.length l) (hc : l.length ≤ c) (hm : l.length ≤ 549755813000) :
    CallsIn F n Try.prog 8 #[.slice A l.length c, .int .i64 s] w fun e W' => ∃ v, e = .returned (.tuple #[v, .int .i64 0]) ∧ (∃ ys : List (Cut l.length), CutsOf l.length s ys ∧ W'.ownsRow w.heap.size 5 1 v (packed l (cuts ys) ++ [0]).length (nums .u8 (packed l (cuts ys) ++ [0]))) ∧ Below w.heap.size w W' := by
  have h1 : 1 ≤ n := by omega
  obtain ⟨i0, hi, hz0, hz1, hz2⟩ := info_parts info5_
  obtain ⟨ad, hA, hcells⟩ : ∃ ad : Addr, (0 < l.length → A = some ad) ∧ ∀ j p, l[j]? = some p → w.cell? (ad.add j) = some (.int .u8 p) := by
    rcases Nat.eq_zero_or_pos l.length with h | h
    · refine ⟨⟨0, 0, none⟩, fun h' => by omega, fun j p hj => ?_⟩
      have := List.length_eq_zero_iff.1 h
      subst this
      simp at hj
    · obtain ⟨ad, e, hp⟩ := hr.2.2 h
      refine ⟨ad, fun _ => e, fun j p hj => ?_⟩
      obtain ⟨cs, hl, hk, hcell⟩ := hp j p hj
      have hk' : cs = [.int .u8 p] := hk
      subst hk'
      have := hcell 0 _ rfl
      have e : (Kd.int .u8).sz = 1 := rfl
      rw [e] at this
      simpa using this
  obtain ⟨m, hmm⟩ : ∃ m, l.length = m := ⟨_, rfl⟩
  rw [hmm] at hA hc hm ⊢
  refine callsIn_of_wp_marks Try.func8 rfl h8 ?_ hro
  simp only [Try.ntmps8, List.size_toArray, List.length_cons, List.length_nil, Nat.reduceAdd, Nat.reduceSub, Array.replicate_succ, Array.replicate_zero, List.push_toArray, List.append_toArray, List.nil_append, List.cons_append]
  gi_wp2_with (gi_at_call 17; refine (chunk_in F (n - 1) h17 hro _ _ _ _ (by omega) _).mono ?_; rintro e w' ⟨rfl, rfl⟩)
  have bO := Boxed.new w 22 (.slice none 0 0)
  have b1 := Boxed.new (w.alloc (.cells #[.slice none 0 0] 22)) 22 (.slice A m c)
  have b2 := Boxed.new ((w.alloc (.cells #[.slice none 0 0] 22)).alloc (.cells #[.slice A m c] 22)) 3 (.int .i64 s)
  rw [World.size_alloc] at b1 b2
  rw [World.size_alloc] at b2
  have hB0 : Below w.heap.size w (((w.alloc (.cells #[.slice none 0 0] 22)).alloc (.cells #[.slice A m c] 22)).alloc (.cells #[.int .i64 s] 3)) := (((Below.refl _ w).alloc (Nat.le_refl _) _).alloc (by simp) _).alloc (by simp; omega) _
  have HBS := belowK_b (w := w) (Nat.le_refl w.heap.size)
  refine wpIn_rangeFunc_ownG hro h1 (gf := 19) (lb := #[.pointer (some ⟨w.heap.size + 1, 0, none⟩), .pointer (some ⟨w.heap.size + 1 + 1, 0, none⟩)]) rfl h19 (enters_of Try.func19 (by kernel_rfl) rfl)
    (chunk_stops F (n - 1) h19 hro (by omega) w.heap.size (w.heap.size + 1) (w.heap.size + 1 + 1) A ad m c hA s hs hs2 (by omega) hc _ (b1.alloc _) b2) (fun h k => CutKp.trans h k) (CutKp.put (by simp; omega) (by simp) (by simp)) (Below.refl _ _) (fun _ => rfl)
    (fun pre W => (∃ v, Boxed W w.heap.size 22 v ∧ W.ownsRow w.heap.size 5 1 v (packed l (cuts pre)).length (nums .u8 (packed l (cuts pre))) ∧ True) ∧ Below w.heap.size w W ∧ Boxed W (w.heap.size + 1) 22 (.slice A m c) ∧ Boxed W (w.heap.size + 1 + 1) 3 (.int .i64 s))
    (fun _ _ _ => False)
    (OwnFrom.and (Own.from (holdsRow_own w.heap.size w.heap.size 22 5 1 (fun pre : List (Cut m) => (packed l (cuts pre)).length) (fun pre : List (Cut m) => nums .u8 (packed l (cuts pre))) (fun _ _ => True)) _) (OwnFrom.and (ownFrom_below (Nat.le_refl _) (by simp; omega)) (OwnFrom.and (Own.from (boxed_own _ _ _) _) (Own.from (boxed_own _ _ _) _))))
    (fun _ _ _ _ _ hs _ _ => hs)
    ⟨⟨_, (bO.alloc _).alloc _, World.ownsRow_nil _ _ _ _, trivial⟩, hB0, b1.alloc _, b2⟩
    (fun x => { tmps := #[.slice A m c, .int .i64 s, undef, undef, .slice none 0 0, .int .i64 0, .pointer (some ⟨w.heap.size, 0, none⟩), .slice (some (ad.add x.1.1)) x.1.2 x.1.2, .int .i64 s, .bool (decide ((s : Int) < 1)), .bool (decide ((s : Int) < 1)), .int .i64 s, .bool (decide (255 < (s : Int))), .bool (decide ((s : Int) < 1) || decide (255 < (s : Int))), .slice A m c, .int .i64 s, .func (.func 19) #[] #[.pointer (some ⟨w.heap.size + 1, 0, none⟩), .pointer (some ⟨w.heap.size + 1 + 1, 0, none⟩)], .slice (some (ad.add x.1.1)) x.1.2 x.1.2, undef, undef, undef, undef, undef, undef, undef, undef, undef, undef, undef], defers := [] }) ?assign ?body ?done ?stop
  case assign =>
    intro l x W K hK
    gi_wp2
    exact hK
  case body =>
    rintro l_ pre ⟨⟨b, q⟩, hx1, hx2, hx3⟩ W ⟨⟨v, hv, hrow, _⟩, hB, hb1, hb2⟩ hlt
    have hcv := hv.cell
    have hlen := packed_length l (cuts pre) (by rintro y hy; obtain ⟨z, _, rfl⟩ := List.mem_map.1 hy; exact z.2.2.2)
    rw [show (cuts pre).length = pre.length from List.length_map _] at hlen
    dsimp only at hx1 hx2 hx3
    gi_wp2_with (first
      | (gi_at_builtin; refine wpListIn_append_own _ rfl _ _ 22 rfl w.heap.size 5 i0 (.int .u8 0) 1 1 Try.underlying22 hi hz0 hz1 hz2 rfl (by decide) _ _ _ rfl (hrow.alloc _) ⟨W.heap.size, 0, none⟩ 1 1 [.int .u8 q] rfl rfl (cell_one_new _ _ _) (by simp [Value.oneCell']) (by unfold maxLen; omega) (by omega) (by have := hB.size; simp; omega) ?_; intro v1 w1 hown1 hgrow1 _; obtain ⟨g1, cap1, rfl⟩ := ownsRow_succ hown1; have hbw := below_w1 hv hrow hB hown1 hgrow1)
      | (gi_at_builtin; refine wpListIn_append_own _ rfl _ _ 22 rfl w.heap.size 5 i0 (.int .u8 0) 1 1 Try.underlying22 hi hz0 hz1 hz2 rfl (by decide) _ _ _ rfl hown1 (ad.add b) q q (nums .u8 ((l.drop b).take q)) rfl ?hn2 ?hc2 ?h12 (by unfold maxLen; omega) (by omega) (by have := hbw.size; omega) ?_; (case hn2 => simp [nums]; omega); (case hc2 => exact cut_cells hcells hbw b q); (case h12 => intro u hu; obtain ⟨z, _, rfl⟩ := List.mem_map.1 hu; rfl); intro v2 w2 hown2 hgrow2 _; obtain ⟨q', rfl⟩ : ∃ q', q = q' + 1 := ⟨q - 1, by omega⟩; obtain ⟨g2, cap2, rfl⟩ := ownsRow_succ (k := _ + 1 + q') hown2; obtain ⟨hv1, hr2, hv2, hk2, hb3, hb4, hoth⟩ := boxed_appended2 hv (by decide) hrow hB.size (Nat.le_refl _) hown1 hgrow1 hown2 hgrow2; have hc1 := hv1.cell; have hf1 := hv1.frozen))
    refine ⟨hk2.from _, ⟨hb4, hoth _ _ _ hb1 (by decide) (by omega), hoth _ _ _ hb2 (by decide) (by omega)⟩, ⟨_, hv2, ?_⟩, hB.trans hb4, (hoth _ _ _ hb1 (by decide) (by omega)).trans hb1, (hoth _ _ _ hb2 (by decide) (by omega)).trans hb2⟩
    have e1 : ∀ h, cuts (pre ++ [⟨(b, q' + 1), h⟩]) = cuts pre ++ [(b, q' + 1)] := fun h => by simp [cuts]
    rw [e1, packed_snoc]
    have e2 : (packed l (cuts pre) ++ (((q' + 1 : Nat) : Int) :: (l.drop b).take (q' + 1))).length = (packed l (cuts pre)).length + 1 + (q' + 1) := by
      simp only [List.length_append, List.length_cons, List.length_take, List.length_drop]
      omega
    rw [e2]
    have e3 : nums .u8 (packed l (cuts pre) ++ (((q' + 1 : Nat) : Int) :: (l.drop b).take (q' + 1))) = nums .u8 (packed l (cuts pre)) ++ [.int .u8 ((q' + 1 : Nat) : Int)] ++ nums .u8 ((l.drop b).take (q' + 1)) := by simp [nums]
    rw [e3]
    exact hr2
  case done =>
    rintro D ys W hD hys ⟨⟨v, hv, hrow, _⟩, hB, hb1, hb2⟩ hK
    have hcv := hv.cell
    have hlen := packed_length l (cuts ys) (by rintro y hy; obtain ⟨z, _, rfl⟩ := List.mem_map.1 hy; exact z.2.2.2)
    rw [show (cuts ys).length = ys.length from List.length_map _] at hlen
    have hyl := hys.length_le hs
    gi_wp2_with (gi_at_builtin; refine wpListIn_append_own _ rfl _ _ 22 rfl w.heap.size 5 i0 (.int .u8 0) 1 1 Try.underlying22 hi hz0 hz1 hz2 rfl (by decide) _ _ _ rfl (hrow.alloc _) ⟨W.heap.size, 0, none⟩ 1 1 [.int .u8 0] rfl rfl (cell_one_new _ _ _) (by simp [Value.oneCell']) (by unfold maxLen; omega) (by omega) (by have := hB.size; simp; omega) ?_; intro v1 w1 hown1 hgrow1 _; obtain ⟨g1, cap1, rfl⟩ := ownsRow_succ hown1; have hbw := below_w1 hv hrow hB hown1 hgrow1)
    have hk2 : KeepsOthers W w1 := (KeepsOthers.alloc W _).trans (keeps_of_own (hrow.alloc _) hgrow1)
    have hK1 := hk2.same D _ hK rfl
    refine ⟨by simp, .inl ⟨_, _, rfl, run_takeDeferred hK1, ?_⟩⟩
    refine ⟨_, results_tmp2 rfl _ _ _, _, rfl, ⟨ys, hys, ?_⟩, hbw.trans (belowK_b (w := w) (Nat.le_refl _) w1 D _ _ (by simp at hD; omega) hK1 rfl rfl)⟩
    have e2 : (packed l (cuts ys) ++ [0]).length = (packed l (cuts ys)).length + 1 := by simp
    rw [e2]
    have e3 : nums .u8 (packed l (cuts ys) ++ [0]) = nums .u8 (packed l (cuts ys)) ++ [.int .u8 0] := by simp [nums]
    rw [e3]
    exact ownsRow_putObj hown1 _ hK1 rfl
  case stop =>
    rintro D c pre W _ _ h _
    exact h.elim
/-- the cuts of m bytes, s a cut -/
def cutList (m s : Nat) : List (Nat × Nat) := (List.range ((m + s - 1) / s)).map fun j => (j * s, min s (m - j * s))
theorem CutsOf.cuts_eq {m s : Nat} {ys : List (Cut m)} (h : CutsOf m s ys) (hs : 1 ≤ s) : cuts ys = cutList m s := by
  obtain ⟨k, h1, h2⟩ := h
  have hk : ys.length = k := by have := congrArg List.length h1; simpa using this
  have h3 : k = (m + s - 1) / s := by
    rcases Nat.eq_zero_or_pos k with h0 | h0
    · subst h0
      have : m = 0 := by omega
      subst this
      exact (Nat.div_eq_of_lt (by omega)).symm
    · have e := congrArg (fun z => z[k - 1]?) h1
      simp only [List.getElem?_map] at e
      rw [List.getElem?_eq_getElem (by omega : k - 1 < ys.length), List.getElem?_range (by omega)] at e
      simp only [Option.map_some, Option.some.injEq] at e
      have hp := (ys[k - 1]'(by omega)).2
      rw [e] at hp
      dsimp only at hp
      have hkk : k * s = (k - 1) * s + s := by
        obtain ⟨k', rfl⟩ : ∃ k', k = k' + 1 := ⟨k - 1, by omega⟩
        rw [Nat.add_mul, Nat.one_mul]; rfl
      have : (m + s - 1) / s = k := by
        rw [Nat.div_eq_iff (by omega)]
        have hsk : s * k = k * s := Nat.mul_comm _ _
        constructor <;> omega
      exact this.symm
  show ys.map (·.1) = _
  rw [h1, h3]
  rfl
theorem reps_nums (w : World) (b : Nat) (ok : Nat → Prop) (xs : List Int) : Reps ((Kd.int .u8).M w b ok) (Kd.int .u8).sz xs (nums .u8 xs) := by
  have e : (Kd.int .u8).sz = 1 := rfl
  rw [e]
  refine ⟨by simp [nums], fun j p hj => ?_⟩
  show _ = [Value.int .u8 p]
  rw [Nat.mul_one]
  obtain ⟨hlt, hp⟩ := List.getElem?_eq_some_iff.1 hj
  have h2 : (nums .u8 xs).drop j = Value.int .u8 p :: (nums .u8 xs).drop (j + 1) := by
    rw [List.drop_eq_getElem_cons (by simpa [nums] using hlt)]
    simp [nums, hp]
  rw [h2]; rfl
/-- what blocks.Pack tells; none: so many bytes are not asked of it -/
def blocks_Pack.f (l : List Int) (s : Int) : Option (List Int × Int) :=
  if s < 1 ∨ 255 < s then some ([], 1) else if l.length ≤ 549755813000 then some (packed l (cutList l.length s.toNat) ++ [0], 0) else none
set_option maxRecDepth 100000 in
set_option maxHeartbeats 1000000 in
theorem blocks_Pack.calls (A0 : Option Addr) (c0 : Nat) (l0 : List Int) (a1 : Int) (r1 : List Int) (r2 : Int) (w : World) (hr0 : Kd.C (Kd.int .u8) w A0 l0.length l0) (hc0 : l0.length ≤ c0) (h : blocks_Pack.f l0 a1 = some (r1, r2)) :
    Calls Try.prog 8 #[.slice A0 l0.length c0, .int .i64 a1] w fun e w' => ∃ v0_ : Value, e = .returned (.tuple #[v0_, .int .i64 r2]) ∧ Kd.R (Kd.int .u8) 5 w' w.heap.size (fun _ => True) v0_ r1 ∧ Below w.heap.size w w' := by
  unfold blocks_Pack.f at h
  split at h
  · rename_i hs
    obtain ⟨rfl, rfl⟩ := Prod.mk.inj (Option.some.inj h)
    refine (callsIn_wide (n := 3)).1 ?_
    refine callsIn_of_wp Try.func8 rfl trivial ?_ rfl
    simp only [Try.ntmps8, List.size_toArray, List.length_cons, List.length_nil, Nat.reduceAdd, Nat.reduceSub, Array.replicate_succ, Array.replicate_zero, List.push_toArray, List.append_toArray, List.nil_append, List.cons_append]
    rcases hs with hs | hs
    · gi_wp2
      refine bodyPost_ret (results_tmp2 rfl _ _ _) rfl ?_
      exact ⟨_, rfl, Kd.R_nil _ _ _ _ _, Below.refl _ _⟩
    · gi_wp2
      refine bodyPost_ret (results_tmp2 rfl _ _ _) rfl ?_
      exact ⟨_, rfl, Kd.R_nil _ _ _ _ _, Below.refl _ _⟩
  · split at h
    · rename_i hs hl
      obtain ⟨rfl, rfl⟩ := Prod.mk.inj (Option.some.inj h)
      obtain ⟨s, rfl⟩ : ∃ s : Nat, a1 = s := ⟨a1.toNat, by omega⟩
      refine (callsIn_wide (n := 3)).1 ((pack_in Fence.wide 3 trivial trivial trivial rfl (by omega) A0 c0 l0 s (by omega) (by omega) w hr0 hc0 hl).mono ?_)
      rintro e w' ⟨v, rfl, ⟨ys, hys, hown⟩, hb⟩
      rw [hys.cuts_eq (by omega)] at hown
      exact ⟨v, rfl, ⟨fun _ _ => trivial, _, hown, reps_nums _ _ _ _⟩, hb⟩
    · cases h
end Go.Proofs.Ytcfdhfgnfakiiaa.Lib
