/- Flight: walked by hand. -/
import Derived.Test.YtfmggodmhklfoaaV4
namespace Go.Proofs.Ytfmggodmhklfoaa.Lib
open Go.RowKit Go.Shelf Go.Proofs.YtfmggodmhklfoaaW.PrintWords Go.Proofs.YtfmggodmhklfoaaW.PrintMore
attribute [local go_sem] Oper.semAt_some
attribute [local go_sem] max2_int min2_int max_two min_two
set_option linter.unusedVariables false
set_option linter.unusedSimpArgs false
/-- where a row of items lies, and its cells -/
theorem IsSd.place {W : World} {n₀ g : Nat} {c : Cfg} {bs nw : Int} {vs : Value} {its : List S54} (h : IsSd W n₀ g c bs nw vs its) : ∃ (A : Option Addr) (cp gb o : Nat), vs = .slice A its.length cp ∧ its.length ≤ cp ∧ (0 < its.length → A = some ⟨gb, o, none⟩) ∧ (0 < its.length → gb < W.heap.size) ∧ (0 < its.length → n₀ ≤ gb) ∧ (0 < its.length → gb ≠ g) ∧ W.cell? ⟨g, 6, none⟩ = some (.slice A its.length cp) ∧ (∀ j, j < its.length → W.cell? ⟨gb, o + j * 4, none⟩ = some (.bool (its.getD j z54).f0)) := by
  obtain ⟨A, cp, e, hcp⟩ := Kd.Q_slice h.row
  subst e
  have hc6 := blk_cell h.blk 6
  rcases Nat.eq_zero_or_pos its.length with h0 | h0
  · exact ⟨A, cp, 0, 0, rfl, hcp, fun h => by omega, fun h => by omega, fun h => by omega, fun h => by omega, by simpa using hc6, fun j hj => by omega⟩
  · obtain ⟨gb, o, cap, e, hb, hlt, _⟩ := Kd.Q_form h.row h0
    injection e with e1 e2 e3
    subst e1 e3
    exact ⟨_, cp, gb, o, rfl, hcp, fun _ => rfl, fun _ => hlt, fun _ => hb, fun _ => h.ne, by simpa using hc6, fun j hj => (k54_cells h.row j hj).1.1⟩
theorem boxedp_own {β : Type} (B t : Nat) (f : β → Value) : Own (fun (s : β) W => Boxed W B t (f s)) := fun s A Bw row hs hg hr => by
  unfold Boxed at *
  exact (grownBy_keeps_cells hg hr hs rfl).trans hs
set_option maxRecDepth 100000 in
set_option maxHeartbeats 1000000 in
theorem flight_in (F : Fence) (k : Nat) (h19 : F.fn 19) (h24 : F.fn 24) (h25 : F.fn 25) (hro : F.round = none) (hk : 3 ≤ k) {n₀ g : Nat} {c : Cfg} {bs nw : Int} {vs : Value} {its : List S54} (w : World) (hI : IsSd w n₀ g c bs nw vs its) (hm : its.length ≤ 4611686018427387904) :
    CallsIn F k Try.prog 19 #[.pointer (some ⟨g, 0, none⟩)] w fun e W' => e = .returned (.int .i64 ((opensTo its its.length).length : Nat)) ∧ Below w.heap.size w W' := by
  have h1 : 1 ≤ k := by omega
  obtain ⟨A, cp, gb, o, rfl, hcp, hA, hgb, _, _, hcr, hci⟩ := hI.place
  have hg := blk_lt hI.blk
  refine callsIn_of_wp_marks Try.func19 rfl h19 ?_ hro
  simp only [Try.ntmps19, List.size_toArray, List.length_cons, List.length_nil, Nat.reduceAdd, Nat.reduceSub, Array.replicate_succ, Array.replicate_zero, List.push_toArray, List.append_toArray, List.nil_append, List.cons_append]
  gi_wp2_with (gi_at_call 24; refine (open_in F (k - 1) h24 hro _ _).mono ?_; rintro e w' ⟨rfl, rfl⟩)
  have bN := Boxed.new w 3 (.int .i64 0)
  have bS := Boxed.new (w.alloc (.cells #[.int .i64 0] 3)) 24 (.pointer (some ⟨g, 0, none⟩))
  rw [World.size_alloc] at bS
  have hB0 : Below w.heap.size w ((w.alloc (.cells #[.int .i64 0] 3)).alloc (.cells #[.pointer (some ⟨g, 0, none⟩)] 24)) := ((Below.refl _ w).alloc (Nat.le_refl _) _).alloc (by simp) _
  have hcr' := pw_cell_below hB0 hcr
  have hci' : ∀ j, j < its.length → World.cell? ((w.alloc (.cells #[.int .i64 0] 3)).alloc (.cells #[.pointer (some ⟨g, 0, none⟩)] 24)) ⟨gb, o + j * 4, none⟩ = some (.bool (its.getD j z54).f0) := fun j hj => pw_cell_below hB0 (hci j hj)
  refine wpIn_rangeFunc_ownG hro h1 (gf := 25) (lb := #[.pointer (some ⟨w.heap.size + 1, 0, none⟩)]) rfl h25 (enters_of Try.func25 (by kernel_rfl) rfl)
    (open_stops F (k - 1) h25 hro (by omega) its (w.heap.size + 1) g gb o A cp hA hm _ bS.cell hcr' hci') (fun h k => OpKp.trans h k) (OpKp.put (by simp) (by simp; omega) (fun h => by have := hgb h; simp; omega)) (Below.refl _ _) (fun _ => rfl)
    (fun pre W => Boxed W w.heap.size 3 (.int .i64 (pre.length : Nat)) ∧ Below w.heap.size w W)
    (fun _ _ _ => False)
    (OwnFrom.and (Own.from (boxedp_own _ _ (fun pre : List (OpI its) => Value.int .i64 (pre.length : Nat))) _) (ownFrom_below (Nat.le_refl _) (by simp; omega)))
    (fun _ _ _ _ _ hs _ _ => hs)
    ⟨bN.alloc _, hB0⟩
    (fun x => { tmps := #[.pointer (some ⟨g, 0, none⟩), undef, .int .i64 0, .pointer (some ⟨w.heap.size, 0, none⟩), .pointer (some ⟨g, 0, none⟩), .bool true, .pointer (some ⟨g, 0, none⟩), .func (.func 25) #[] #[.pointer (some ⟨w.heap.size + 1, 0, none⟩)], .int .i64 x.1, .pointer (some ⟨gb, o + x.1 * 4, none⟩), undef, undef, undef], defers := [] }) ?assign ?body ?done ?stop
  case assign =>
    intro l x W K hK
    gi_wp2
    simpa [List.zip_toArray] using hK
  case body =>
    rintro l pre x W ⟨hv, hB⟩ hlt
    have hc := hv.cell
    have hf := hv.frozen
    gi_wp2
    refine ⟨(KeepsOthers.setCell _ _ _).from _, ⟨cell_far (p := ⟨w.heap.size, 0, none⟩) (show w.heap.size + 1 ≠ w.heap.size by omega) _, cell_far (p := ⟨w.heap.size, 0, none⟩) (show g ≠ w.heap.size by omega) _, fun j hj => cell_far (p := ⟨w.heap.size, 0, none⟩) (show gb ≠ w.heap.size by have := hgb (by omega); omega) _⟩, ?_, hB.setCell (p := ⟨w.heap.size, 0, none⟩) (Nat.le_refl _) _⟩
    have h := hv.set (.int .i64 ((pre.length : Int) + 1))
    have e : ((pre ++ [x]).length : Int) = (pre.length : Int) + 1 := by simp
    rw [e]
    exact h
  case done =>
    rintro D ys W hD hys ⟨hv, hB⟩ hK
    have hc := hv.cell
    gi_wp2
    refine ⟨by simp, .inl ⟨_, _, rfl, run_takeDeferred hK, ?_⟩⟩
    refine ⟨_, results_tmp rfl _ _ _, ?_, hB.trans (belowK_b (w := w) (Nat.le_refl _) W D _ _ (by simp at hD; omega) hK rfl rfl)⟩
    have e := congrArg List.length hys
    simp only [List.length_map] at e
    rw [← e]
    rfl
  case stop =>
    rintro D c pre W _ _ h _
    exact h.elim
set_option maxRecDepth 100000 in
theorem flight_walk {n₀ g : Nat} {c : Cfg} {bs nw : Int} {vs : Value} {its : List S54} (w : World) (hI : IsSd w n₀ g c bs nw vs its) (hm : its.length ≤ 4611686018427387904) :
    Calls Try.prog 19 #[.pointer (some ⟨g, 0, none⟩)] w fun e W' => e = .returned (.int .i64 ((opensTo its its.length).length : Nat)) ∧ Below w.heap.size w W' :=
  (callsIn_wide (n := 3)).1 (flight_in Fence.wide 3 trivial trivial trivial rfl (by omega) w hI hm)
end Go.Proofs.Ytfmggodmhklfoaa.Lib
