/- ReceiverWhole: the law's rows and its receiver, event by event. -/
import Derived.Test.YthkiedkifhloeaaV7
import Derived.Test.YthkiedkifhloeaaP1
namespace Go.Proofs.Ythkiedkifhloeaa.Lib
open Go.RowKit Go.Proofs.YthkiedkifhloeaaW.PrintWords Go.Proofs.YthkiedkifhloeaaW.PrintLast Go.Proofs.YthkiedkifhloeaaW.PrintMore
set_option linter.unusedVariables false
set_option linter.unusedSimpArgs false
/-- the items as they lie -/
def Its (w : World) (hs : List Hd) (its : List (List Int)) : Prop := Rel2 (fun (h : Hd) l => h.2.1 = l.length ∧ l.length ≤ h.2.2 ∧ Kd.C (Kd.int .u8) w h.1 l.length l) hs its
def NotOf (v : Value) (k : Nat) : Prop := some k ≠ v.ownBlock
/-- the receiver, the items, what is told -/
structure WI (W : World) (B g mb : Nat) (n ww nx : Int) (v10 v14 : Value) (hs : List Hd) (L : List (Int × List Int)) (told : List Int) : Prop where
  rv : Rv W B (NotOf v14) g mb n ww nx L
  it : Kd.R ksl 22 W B (fun _ => True) v10 hs
  tl : Kd.R (Kd.int .u8) 5 W B (fun _ => True) v14 told
theorem Rel2.snoc {α β : Type} {R : α → β → Prop} {a : α} {b : β} (h : R a b) : ∀ {F : List α} {L : List β}, Rel2 R F L → Rel2 R (F ++ [a]) (L ++ [b])
  | [], [], _ => ⟨h, trivial⟩
  | x :: F, l :: L, ⟨h1, c⟩ => ⟨h1, Rel2.snoc h c⟩
  | [], _ :: _, h => h.elim
  | _ :: _, [], h => h.elim
theorem R_stT {α : Type} {d : Kd α} {e : Nat} {W W1 : World} {B : Nat} {v : Value} {xs : List α} (hE : d.E = []) (h : Kd.R d e W B (fun _ => True) v xs) (hm : ∀ k, v.ownBlock = some k → k < W.heap.size → (∃ cells, W.heap[k]? = some (.cells cells e (0, 0))) → W1.heap[k]? = W.heap[k]?) : Kd.R d e W1 B (fun _ => True) v xs :=
  Kd.R_mono (Kd.R_step (Kd.R_bound (Kd.R_tight hE h)) (fun k hk _ => hm k hk.1.symm hk.2.2.1 (Kd.R_typed h k hk.1.symm))) (fun _ _ => trivial)
section
variable {W W1 : World} {B g mb : Nat} {n ww nx : Int} {v10 v14 v14' : Value} {hs : List Hd} {L : List (Int × List Int)} {told told' : List Int}
theorem WI.below (h : WI W B g mb n ww nx v10 v14 hs L told) (hb : Below W.heap.size W W1) : WI W1 B g mb n ww nx v10 v14 hs L told :=
  ⟨h.rv.below hb, Kd.R_below h.it hb, Kd.R_below h.tl hb⟩
/-- what lies in another type's block stays when the told bytes grow -/
theorem grown_ty {v : Value} {e t k : Nat} {α : Type} {d : Kd α} {xs : List α} (h : Kd.R d e W B (fun _ => True) v xs) (hg : W.grownBy W1 v.ownBlock) (ht : e ≠ t) (hc : ∃ cells, W.heap[k]? = some (.cells cells t (0, 0))) : W1.heap[k]? = W.heap[k]? := by
  obtain ⟨cells, hc⟩ := hc
  exact hg.block k (blk_lt hc) (Kd.R_ne h hc ht)
theorem grown_map {v : Value} {e k : Nat} {α : Type} {d : Kd α} {xs : List α} {es : Array MapEntry} {clock : Nat} (h : Kd.R d e W B (fun _ => True) v xs) (hg : W.grownBy W1 v.ownBlock) (hc : W.heap[k]? = some (.map es clock)) : W1.heap[k]? = W.heap[k]? := by
  refine hg.block k (blk_lt hc) (fun e2 => ?_)
  obtain ⟨cells, h2⟩ := Kd.R_typed h k e2.symm
  rw [hc] at h2
  cases h2
theorem not_of (hat : v14'.ownBlock = v14.ownBlock ∨ ∃ b, v14'.ownBlock = some b ∧ W.heap.size ≤ b) {k : Nat} (hk : NotOf v14 k) (hlt : k < W.heap.size) : NotOf v14' k := by
  intro e
  rcases hat with h | ⟨b, h, hb⟩
  · exact hk (e.trans h)
  · rw [h] at e
    obtain rfl := Option.some.inj e
    omega
theorem WI.app (h : WI W B g mb n ww nx v10 v14 hs L told) (hg : W.grownBy W1 v14.ownBlock) (hR : Kd.R (Kd.int .u8) 5 W1 B (fun _ => True) v14' told') (hat : v14'.ownBlock = v14.ownBlock ∨ ∃ b, v14'.ownBlock = some b ∧ W.heap.size ≤ b) : WI W1 B g mb n ww nx v10 v14' hs L told' := by
  obtain ⟨F, hF, _, _⟩ := h.rv.rv
  refine ⟨h.rv.st (grown_ty h.tl hg (by decide) ⟨_, hF.blk⟩) ?_ (fun k a _ c hc => ⟨hg.block k c (fun e => a e), not_of hat a c⟩), ?_, hR⟩
  · obtain ⟨es, clock, hm, _⟩ := hF.mp
    exact grown_map h.tl hg hm
  · exact R_stT rfl h.it (fun k _ _ hc => grown_ty h.tl hg (by decide) hc)
theorem Told.app {v : Value} {T : List (List Int)} (h : Told W B (NotOf v14) v T) (ht : Kd.R (Kd.int .u8) 5 W B (fun _ => True) v14 told) (hg : W.grownBy W1 v14.ownBlock) (hat : v14'.ownBlock = v14.ownBlock ∨ ∃ b, v14'.ownBlock = some b ∧ W.heap.size ≤ b) : Told W1 B (NotOf v14') v T :=
  h.st (fun k _ _ hc => grown_ty ht hg (by decide) hc) (fun k a _ c _ => ⟨hg.block k c (fun e => a e), not_of hat a c⟩)
end
theorem Told.empty {W : World} {B : Nat} {ok : Nat → Prop} : Told W B ok (.slice none 0 0) [] := ⟨[], Kd.R_nil _ _ _ _ _, trivial⟩
theorem PW.len {items : List (List Int)} {w nx : Int} {L : List (Int × List Int)} {told : List Int} (h : PW items w nx L told) : told.length ≤ items.flatten.length := by
  rw [h.td]
  conv => rhs; rw [← List.take_append_drop nx.toNat items, List.flatten_append, List.length_append]
  omega
theorem mem_flat_len : ∀ (L : List (List Int)) (x : List Int), x ∈ L → x.length ≤ L.flatten.length
  | y :: L, x, h => by
    rw [List.flatten_cons, List.length_append]
    rcases List.mem_cons.1 h with rfl | h
    · omega
    · have := mem_flat_len L x h
      omega
theorem Bytes.of {l : List Int} (h : ∀ b ∈ l, (Lit.int .u8 b).wf = true) : Bytes l := fun x hx => by
  have h1 := h x hx
  unfold Lit.wf at h1
  rw [Bool.and_eq_true, decide_eq_true_eq, decide_eq_true_eq] at h1
  exact h1
theorem wi_take {w W : World} {g mb : Nat} {ww nx : Int} {v10 v14 : Value} {hs : List Hd} {its : List (List Int)} {L : List (Int × List Int)} {told : List Int} (h : WI W w.heap.size g mb (its.length : Int) ww nx v10 v14 hs L told) (hp : PW its ww nx L told) (hI : Its w hs its) (hb : Below w.heap.size w W) (hl : its.flatten.length ≤ 300) (hn : its.length ≤ 1048577) (a : Nat) (ha : a < its.length) {A : Option Addr} {m c : Nat} (hx : hs.getD a (Option.none, 0, 0) = (A, m, c)) :
    Calls Try.prog 10 #[.pointer (some ⟨g, 0, none⟩), .int .i64 (a : Int), .slice A m c] W fun e W' => ∃ Ao No co bb nx' L' T, e = .returned (.tuple #[.slice Ao No co, .bool bb]) ∧ WI W' w.heap.size g mb (its.length : Int) ww nx' v10 v14 hs L' told ∧ Told W' w.heap.size (NotOf v14) (.slice Ao No co) T ∧ T.length = No ∧
      PW its ww nx' L' (told ++ T.flatten) ∧ nx ≤ nx' ∧ (nx = a → nx < nx') ∧ Below w.heap.size w W' := by
  have hlen : hs.length = its.length := hI.length
  have hxe : hs[a]? = some (A, m, c) := by
    rw [List.getElem?_eq_getElem (by omega)]
    rw [List.getD_eq_getElem?_getD, List.getElem?_eq_getElem (by omega)] at hx
    exact congrArg some hx
  obtain ⟨xs, hxs⟩ : ∃ xs, its.getD a [] = xs := ⟨_, rfl⟩
  have hye : its[a]? = some xs := by
    rw [List.getElem?_eq_getElem ha]
    rw [List.getD_eq_getElem?_getD, List.getElem?_eq_getElem ha] at hxs
    exact congrArg some hxs
  obtain ⟨h1, h2, h3⟩ := hI.at_ a _ _ hxe hye
  simp only at h1 h2 h3
  rw [← h1] at h3
  have hxl : xs.length ≤ 300 := by
    have := mem_flat_len its xs (List.mem_of_getElem? hye)
    omega
  have hwf : (Lit.int .i64 (a : Int)).wf = true := wf64 (by omega)
  by_cases hno : (a : Int) < nx ∨ nx + ww ≤ a ∨ (atF L (a : Int)).isSome = true
  · refine (rv_no h.rv a hwf _ (by rcases hno with q | q | q; exact .inl q; exact .inr (.inr (.inl q)); exact .inr (.inr (.inr q)))).mono ?_
    rintro e W' ⟨rfl, q, rfl⟩
    refine ⟨Option.none, 0, 0, false, nx, L, [], rfl, h.below (pw_below_drewN (Below.refl _ _) q), Told.empty, rfl, by simpa using hp, Int.le_refl _, fun e => ?_, pw_below_drewN hb q⟩
    exfalso
    rcases hno with q | q | q
    · omega
    · have := h.rv.b.w1; omega
    · cases hf : atF L (a : Int) with
      | none => rw [hf] at q; cases q
      | some y =>
        have := h.rv.b.lo _ (atF_mem _ _ _ hf)
        simp only at this
        omega
  · have hn1 : atF L (a : Int) = Option.none := by
      cases hf : atF L (a : Int) with
      | none => rfl
      | some y => exact absurd (.inr (.inr (by rw [hf]; rfl))) hno
    have hai : nx ≤ (a : Int) ∧ (a : Int) < its.length ∧ (a : Int) < nx + ww := ⟨by by_cases q : (a : Int) < nx; exact absurd (.inl q) hno; omega, by omega, by by_cases q : nx + ww ≤ a; exact absurd (.inr (.inl q)) hno; omega⟩
    refine (rv_yes h.rv a hai hn1 A m c xs h1.symm (Kd.C_below h3 hb) (by omega)).mono ?_
    rintro e W' ⟨Ao, No, co, rfl, hV, hT, hN, hK, hb2⟩
    have hpt := hp.take hai hn1
    rw [hxs] at hpt
    obtain ⟨p1, p2, p3⟩ := hpt
    obtain ⟨F, hF, _, _⟩ := h.rv.rv
    have hty : ∀ (k t : Nat), 51 ≠ t → (∃ cells, W.heap[k]? = some (.cells cells t (0, 0))) → W'.heap[k]? = W.heap[k]? := fun k t ht hc => kept_ty hF hK ht hc
    have hok : ∀ k, okN (NotOf v14) W k → w.heap.size ≤ k → k < W'.heap.size → NotOf v14 k := fun k hk _ _ => by
      rcases hk with hk | hk
      · exact hk
      · intro e
        have := Kd.R_lt h.tl k e.symm
        omega
    refine ⟨Ao, No, co, true, _, _, _, rfl, ⟨hV.mono hok, R_stT rfl h.it (fun k _ _ hc => hty k 22 (by decide) hc), R_stT rfl h.tl (fun k _ _ hc => hty k 5 (by decide) hc)⟩, hT.st (fun _ _ _ _ => rfl) (fun k q r s _ => ⟨rfl, hok k q r s⟩), hN.symm, p1, p2, p3, hb.trans hb2⟩
end Go.Proofs.Ythkiedkifhloeaa.Lib
