/- open: the iterator over the items that are on the way: which it hands out. -/
import Derived.Test.YtfmggodmhklfoaaV3
import Derived.RangeFuncBox
import Derived.RangeFuncNested
import Derived.RangeFuncBound
import Derived.RangeFuncCalls
import Derived.RangeFuncLeaves
import Derived.Shelf.Abstract
import Derived.Shelf.RegionOpen
import Derived.OwnWalkIn
import Derived.TacticsInMore
import Derived.LoopNIn
import Derived.LoopIn
import Derived.Maps.AppendAt
import Derived.Sort.BigQuietIn
import Derived.WalkLawsBesides
import Derived.WalkSpells
namespace Go.Proofs.Ytfmggodmhklfoaa.Lib
open Go.RowKit Go.Shelf Go.Proofs.YtfmggodmhklfoaaW.PrintWords Go.Proofs.YtfmggodmhklfoaaW.PrintMore
attribute [local go_sem] Oper.semAt_some
attribute [local go_sem] max2_int min2_int max_two min_two
set_option linter.unusedVariables false
set_option linter.unusedSimpArgs false
/-- an item that isn't acked -/
abbrev OpI (its : List S54) := { i : Nat // i < its.length ∧ (its.getD i z54).f0 = false }
/-- which items aren't acked, of the first k -/
def opensTo (its : List S54) (k : Nat) : List Nat := (List.range k).filter fun i => !(its.getD i z54).f0
theorem opensTo_succ (its : List S54) (k : Nat) : opensTo its (k + 1) = opensTo its k ++ if (its.getD k z54).f0 = false then [k] else [] := by
  unfold opensTo
  rw [List.range_succ, List.filter_append]
  cases h : (its.getD k z54).f0 <;> simp only [List.filter_cons, List.filter_nil, h] <;> rfl
theorem opensTo_length (its : List S54) (k : Nat) : (opensTo its k).length ≤ k := by
  have := List.length_filter_le (fun i => !(its.getD i z54).f0) (List.range k)
  simpa [opensTo] using this
/-- what a round keeps for the iterator -/
structure OpKp (its : List S54) (Bx g gb o : Nat) (X Y : World) : Prop where
  box : Y.cell? ⟨Bx, 0, none⟩ = X.cell? ⟨Bx, 0, none⟩
  row : Y.cell? ⟨g, 6, none⟩ = X.cell? ⟨g, 6, none⟩
  its : ∀ j, j < its.length → Y.cell? ⟨gb, o + j * 4, none⟩ = X.cell? ⟨gb, o + j * 4, none⟩
theorem OpKp.trans {its : List S54} {Bx g gb o : Nat} {X Y Z : World} (h : OpKp its Bx g gb o X Y) (k : OpKp its Bx g gb o Y Z) : OpKp its Bx g gb o X Z :=
  ⟨k.box.trans h.box, k.row.trans h.row, fun j hj => (k.its j hj).trans (h.its j hj)⟩
set_option maxRecDepth 100000 in
theorem open_in (F : Fence) (n : Nat) (h24 : F.fn 24) (hro : F.round = none) (p : Option Addr) (w : World) :
    CallsIn F n Try.prog 24 #[.pointer p] w fun e w' => e = .returned (.func (.func 25) #[] #[.pointer (some ⟨w.heap.size, 0, none⟩)]) ∧ w' = w.alloc (.cells #[.pointer p] 24) := by
  refine callsIn_of_wp Try.func24 rfl h24 ?_ hro
  simp only [Try.ntmps24, List.size_toArray, List.length_cons, List.length_nil, Nat.reduceAdd, Nat.reduceSub, Array.replicate_succ, Array.replicate_zero, List.push_toArray, List.append_toArray, List.nil_append, List.cons_append]
  gi_wp2
  go_ret
  exact ⟨rfl, rfl⟩
set_option maxRecDepth 100000 in
set_option maxHeartbeats 1000000 in
theorem open1_in (F : Fence) (n : Nat) (h25 : F.fn 25) (hro : F.round = none) (hn : 1 ≤ n) (its : List S54) (l Bx g gb o : Nat) (A : Option Addr) (cp : Nat) (hA : 0 < its.length → A = some ⟨gb, o, none⟩) (hm : its.length ≤ 4611686018427387904) (J Jx : List (OpI its) → World → Prop)
    (hY : ∀ pre x W, J pre W → pre.length < its.length → YieldAt F (n - 1) Try.prog l #[.int .i64 x.1, .pointer (some ⟨gb, o + x.1 * 4, none⟩)] W fun e W' =>
      (e = .returned (.bool true) ∧ J (pre ++ [x]) W' ∧ OpKp its Bx g gb o W W') ∨ (e = .returned (.bool false) ∧ Jx (pre ++ [x]) W'))
    (W : World) (hcb : W.cell? ⟨Bx, 0, none⟩ = some (.pointer (some ⟨g, 0, none⟩))) (hcr : W.cell? ⟨g, 6, none⟩ = some (.slice A its.length cp)) (hci : ∀ j, j < its.length → W.cell? ⟨gb, o + j * 4, none⟩ = some (.bool (its.getD j z54).f0)) (h0 : J [] W) (hJd : ∀ pre W k, J pre W → J pre (W.drewN k)) :
    CallsIn F n Try.prog 25 #[.func (.yield l) #[] #[], .pointer (some ⟨Bx, 0, none⟩)] W fun e W' => (∃ v, e = .returned v) ∧
      ((∃ ys : List (OpI its), ys.map (·.1) = opensTo its its.length ∧ J ys W') ∨ (∃ pre, True ∧ Jx pre W')) := by
  obtain ⟨m, hmm⟩ : ∃ m, its.length = m := ⟨_, rfl⟩
  have HM := Aside0.mk hmm
  have HA := Aside0.mk hA
  have HCI := Aside0.mk hci
  rw [hmm] at hcr hm
  clear hmm hA hci
  refine callsIn_of_wp Try.func25 rfl h25 ?_ hro
  simp only [Try.ntmps25, List.size_toArray, List.length_cons, List.length_nil, Nat.reduceAdd, Nat.reduceSub, Array.replicate_succ, Array.replicate_zero, List.push_toArray, List.append_toArray, List.nil_append, List.cons_append]
  gi_wp2
  gi_loopw [10] (fun i wr => ∃ (k : Nat) (pre : List (OpI its)), i = .int .i64 k ∧ k ≤ m ∧ Aside0 (pre.map (·.1) = opensTo its k) ∧ J pre wr ∧ Aside0 (wr.cell? ⟨Bx, 0, none⟩ = some (.pointer (some ⟨g, 0, none⟩)) ∧ wr.cell? ⟨g, 6, none⟩ = some (.slice A m cp) ∧ ∀ j, j < m → wr.cell? ⟨gb, o + j * 4, none⟩ = some (.bool (its.getD j z54).f0)))
    (fun i _ => m - (intOf i).toNat)
  case atStart => exact ⟨0, [], rfl, Nat.zero_le _, ⟨rfl⟩, h0, ⟨hcb, hcr, fun j hj => HCI.out j (by rw [HM.out]; exact hj)⟩⟩
  case round =>
    clear hcb hcr HCI
    obtain ⟨k, pre, rfl, hk, HP, hJ, HC⟩ := hrel
    have hpl : pre.length ≤ k := by have h := congrArg List.length HP.out; have := opensTo_length its k; simp at h; omega
    by_cases hlt : k < m
    · have hAe := HA.out (by rw [HM.out]; omega)
      subst hAe
      have hb := HC.out.1
      have hr := HC.out.2.1
      have hx := HC.out.2.2 k hlt
      cases hac : (its.getD k z54).f0 with
      | true =>
        rw [hac] at hx
        have HAC := Aside0.mk hac
        clear hac
        gi_wp2
        refine ⟨fun _ h => (by cases h), ?_⟩
        gi_wp2
        exact ⟨⟨k + 1, pre, by push_cast; rfl, by omega, ⟨by rw [opensTo_succ, if_neg (by rw [HAC.out]; simp), List.append_nil]; exact HP.out⟩, hJ, HC⟩, by simp [intOf]; omega⟩
      | false =>
        rw [hac] at hx
        obtain ⟨fn, tmps, assign, body, hy, hR⟩ := hY pre ⟨k, by rw [HM.out]; exact hlt, hac⟩ wr hJ (by rw [HM.out]; omega)
        dsimp only at hy
        have HR := Aside0.mk hR
        have HAC := Aside0.mk hac
        clear hR hpl
        gi_wp2
        refine HR.out.mono ?_
        rintro e W' (⟨rfl, hJ', hk'⟩ | ⟨rfl, hJx'⟩)
        · have HC' := Aside0.mk (show W'.cell? ⟨Bx, 0, none⟩ = some (.pointer (some ⟨g, 0, none⟩)) ∧ W'.cell? ⟨g, 6, none⟩ = some (.slice (some ⟨gb, o, none⟩) m cp) ∧ ∀ j, j < m → W'.cell? ⟨gb, o + j * 4, none⟩ = some (.bool (its.getD j z54).f0) from ⟨hk'.box.trans HC.out.1, hk'.row.trans HC.out.2.1, fun j hj => (hk'.its j (by rw [HM.out]; exact hj)).trans (HC.out.2.2 j hj)⟩)
          gi_wp2
          exact ⟨⟨k + 1, pre ++ [⟨k, _⟩], by push_cast; rfl, by omega, ⟨by rw [opensTo_succ, if_pos HAC.out, List.map_append, HP.out]; rfl⟩, hJ', HC'⟩, by simp [intOf]; omega⟩
        · gi_wp2
          refine bodyPost_ret (results_none rfl _ _ _) rfl ?_
          exact ⟨⟨_, rfl⟩, .inr ⟨_, trivial, hJx'⟩⟩
    · gi_wp2
      go_end0
      have ek : k = its.length := by rw [HM.out]; omega
      exact ⟨⟨_, rfl⟩, .inl ⟨pre, ek ▸ HP.out, hJ⟩⟩
theorem OpKp.put {its : List S54} {Bx g gb o : Nat} {w : World} (h1 : Bx < w.heap.size) (h2 : g < w.heap.size) (h3 : 0 < its.length → gb < w.heap.size) (W : World) (l : Nat) (ob ob' : Obj) (hl : w.heap.size ≤ l) (_ : W.heap[l]? = some ob) (_ : ob.isCells = false) (_ : ob.isWalk = false) : OpKp its Bx g gb o W (W.putObj l ob') :=
  ⟨World.cell?_of_block (World.putObj_heap_other (show Bx ≠ l by omega)), World.cell?_of_block (World.putObj_heap_other (show g ≠ l by omega)), fun j hj => World.cell?_of_block (World.putObj_heap_other (show gb ≠ l by have := h3 (by omega); omega))⟩
theorem open_stops (F : Fence) (n : Nat) (h25 : F.fn 25) (hro : F.round = none) (hn : 1 ≤ n) (its : List S54) (Bx g gb o : Nat) (A : Option Addr) (cp : Nat) (hA : 0 < its.length → A = some ⟨gb, o, none⟩) (hm : its.length ≤ 4611686018427387904) (w : World)
    (hcb : w.cell? ⟨Bx, 0, none⟩ = some (.pointer (some ⟨g, 0, none⟩))) (hcr : w.cell? ⟨g, 6, none⟩ = some (.slice A its.length cp)) (hci : ∀ j, j < its.length → w.cell? ⟨gb, o + j * 4, none⟩ = some (.bool (its.getD j z54).f0)) :
    SeqStopsK F n Try.prog 25 #[.pointer (some ⟨Bx, 0, none⟩)] (fun x : OpI its => #[.int .i64 x.1, .pointer (some ⟨gb, o + x.1 * 4, none⟩)]) (OpKp its Bx g gb o) (fun ys => ys.map (·.1) = opensTo its its.length) (fun _ => True) its.length w := fun l J Jx W hW hJ _ hY h0 =>
  open1_in F n h25 hro hn its l Bx g gb o A cp hA hm J Jx hY W (pw_cell_below hW hcb) (pw_cell_below hW hcr) (fun j hj => pw_cell_below hW (hci j hj)) h0
    (fun pre X k hj => hJ pre X _ none hj ⟨rfl, rfl, rfl, Nat.le_refl _, fun _ _ _ => rfl⟩ (fun _ e => by cases e))
end Go.Proofs.Ytfmggodmhklfoaa.Lib
