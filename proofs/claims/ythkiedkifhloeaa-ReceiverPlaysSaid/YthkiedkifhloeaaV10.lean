/- ReceiverOrder: the law's rows and its receiver, event by event. -/
import Derived.Test.YthkiedkifhloeaaV9
import Derived.Test.YthkiedkifhloeaaP2
namespace Go.Proofs.Ythkiedkifhloeaa.Lib
open Go.RowKit Go.Proofs.YthkiedkifhloeaaW.PrintWords Go.Proofs.YthkiedkifhloeaaW.PrintLast Go.Proofs.YthkiedkifhloeaaW.PrintMore
set_option linter.unusedVariables false
set_option linter.unusedSimpArgs false
def zh : Hd := (none, 0, 0)
/-- one of the parts that were told -/
theorem Told.at_ {W : World} {B : Nat} {ok : Nat → Prop} {A : Option Addr} {N c : Nat} {T : List (List Int)} (h : Told W B ok (.slice A N c) T) (hN : T.length = N) (s : Nat) (hs : s < N) :
    ∃ go A1 m1 c1, A = some ⟨go, 0, none⟩ ∧ W.cell? ⟨go, s, none⟩ = some (.slice A1 m1 c1) ∧ (T.getD s []).length = m1 ∧ m1 ≤ c1 ∧ Kd.C (Kd.int .u8) W A1 m1 (T.getD s []) := by
  obtain ⟨hs2, h1, h2⟩ := h.out
  have hl := h2.length
  obtain ⟨go, c2, e, _⟩ := rowA_form (hl.trans hN) (by omega) h1
  injection e with e _ _
  subst e
  obtain ⟨cs, _, hM, hc, _⟩ := Kd.R_elem h1 (none, 0, 0) (s : Int) (by omega) (by omega)
  obtain rfl : cs = [.slice (hs2.getD (s : Int).toNat (none, 0, 0)).1 (hs2.getD (s : Int).toNat (none, 0, 0)).2.1 (hs2.getD (s : Int).toNat (none, 0, 0)).2.2] := hM
  have h5 := hc 0 _ rfl
  have e1 : ksl.sz = 1 := rfl
  rw [e1] at h5
  simp only [Int.toNat_natCast, Nat.mul_one, Nat.add_zero] at h5
  have hsl : s < hs2.length := by omega
  have hr := h2.at_ s hs2[s] (T.getD s []) (List.getElem?_eq_getElem hsl) (by rw [List.getD_eq_getElem?_getD, List.getElem?_eq_getElem (by omega)]; rfl)
  rw [List.getD_eq_getElem?_getD, List.getElem?_eq_getElem hsl] at h5
  obtain ⟨hm, hmc, hC⟩ := Kd.R_reads' hr
  refine ⟨go, _, _, _, rfl, h5, hm.symm, hmc, ?_⟩
  have hC2 := hC
  rw [← hm] at hC2
  exact hC2
/-- the receiver, what came and whether -/
structure OI (w W : World) (g mb n : Nat) (ww nx : Int) (v10 v11 : Value) (hs : List Hd) (bs : List Bool) (cb : List (List Int)) (L : List (Int × List Int)) : Prop where
  rv : Rv W w.heap.size tru g mb (n : Int) ww nx L
  cm : Kd.R ksl 22 W w.heap.size (fun _ => True) v10 hs
  is : Kd.R Kd.bool 4 W w.heap.size (fun _ => True) v11 bs
  lh : hs.length = n
  lb : bs.length = n
  at_ : ∀ j, j < n → bs.getD j false = true → (hs.getD j zh).2.1 = (cb.getD j []).length ∧ (cb.getD j []).length ≤ (hs.getD j zh).2.2 ∧ Kd.C (Kd.int .u8) w (hs.getD j zh).1 (cb.getD j []).length (cb.getD j [])
  bl : Below w.heap.size w W
section
variable {w W W1 : World} {g mb n : Nat} {ww nx : Int} {v10 v11 : Value} {hs : List Hd} {bs : List Bool} {cb : List (List Int)} {L : List (Int × List Int)}
theorem OI.below (h : OI w W g mb n ww nx v10 v11 hs bs cb L) (hb : Below W.heap.size W W1) : OI w W1 g mb n ww nx v10 v11 hs bs cb L :=
  ⟨h.rv.below hb, Kd.R_below h.cm hb, Kd.R_below h.is hb, h.lh, h.lb, h.at_, below_then h.bl h.bl.size hb⟩
/-- what the law does with what Take told -/
def TakeO (w W W' : World) (g mb n : Nat) (ww nx : Int) (v10 v11 : Value) (hs : List Hd) (bs : List Bool) (cb : List (List Int)) (L : List (Int × List Int)) (i : Int) (d : List Int) (Ao : Option Addr) (No co : Nat) (bb : Bool) (nx' : Int) (L' : List (Int × List Int)) (T : List (List Int)) : Prop :=
  Told W' w.heap.size tru (.slice Ao No co) T ∧ T.length = No ∧ OI w W' g mb n ww nx' v10 v11 hs bs cb L' ∧
    ((bb = false ∧ nx' = nx ∧ L' = L ∧ T = []) ∨ (bb = true ∧ ∃ a : Nat, i = (a : Int) ∧ nx ≤ (a : Int) ∧ a < n ∧ (a : Int) < nx + ww ∧ atF L (a : Int) = none ∧ popL nx (insF (a : Int) d L) = (nx', L', T))) ∧
    (∀ k, (Value.slice Ao No co).ownBlock = some k → W.heap.size ≤ k) ∧ ∀ k t : Nat, 51 ≠ t → (∃ cells, W.heap[k]? = some (Obj.cells cells t (0, 0))) → W'.heap[k]? = W.heap[k]?
theorem oi_take (h : OI w W g mb n ww nx v10 v11 hs bs cb L) (hn : n ≤ 1048577) (i : Int) (hi : (Lit.int .i64 i).wf = true) (A : Option Addr) (m c : Nat) (d : List Int) (hm : d.length = m) (hC : Kd.C (Kd.int .u8) W A m d) (hl : m ≤ 1000000) :
    Calls Try.prog 10 #[.pointer (some ⟨g, 0, none⟩), .int .i64 i, .slice A m c] W fun e W' => ∃ Ao No co bb nx' L' T, e = .returned (.tuple #[.slice Ao No co, .bool bb]) ∧ TakeO w W W' g mb n ww nx v10 v11 hs bs cb L i d Ao No co bb nx' L' T := by
  by_cases hno : i < nx ∨ (n : Int) ≤ i ∨ nx + ww ≤ i ∨ (atF L i).isSome = true
  · refine (rv_no h.rv i hi _ hno).mono ?_
    rintro e W' ⟨rfl, q, rfl⟩
    exact ⟨none, 0, 0, false, nx, L, [], rfl, Told.empty, rfl, h.below (pw_below_drewN (Below.refl _ _) q), .inl ⟨rfl, rfl, rfl, rfl⟩, (fun k hk => by simp [Value.ownBlock] at hk), fun _ _ _ _ => rfl⟩
  · have hn1 : atF L i = none := by
      cases hf : atF L i with
      | none => rfl
      | some y => exact absurd (.inr (.inr (.inr (by rw [hf]; rfl)))) hno
    have h1 : nx ≤ i := by
      by_cases q : i < nx
      · exact absurd (.inl q) hno
      · omega
    have h2 : i < n := by
      by_cases q : (n : Int) ≤ i
      · exact absurd (.inr (.inl q)) hno
      · omega
    have h3 : i < nx + ww := by
      by_cases q : nx + ww ≤ i
      · exact absurd (.inr (.inr (.inl q))) hno
      · omega
    refine (rv_yesF h.rv i ⟨h1, h2, h3⟩ hn1 A m c d hm hC hl).mono ?_
    rintro e W' ⟨Ao, No, co, rfl, hV, hT, hN, hK, hb2, hfr⟩
    obtain ⟨F, hF, _, _⟩ := h.rv.rv
    have hty : ∀ (k t : Nat), 51 ≠ t → (∃ cells, W.heap[k]? = some (.cells cells t (0, 0))) → W'.heap[k]? = W.heap[k]? := fun k t ht hc => kept_ty hF hK ht hc
    have h0 := h.rv.b.n0
    have ei : i = ((i.toNat : Nat) : Int) := by omega
    refine ⟨Ao, No, co, true, _, _, _, rfl, hT.st (fun _ _ _ _ => rfl) (fun _ _ _ _ _ => ⟨rfl, trivial⟩), hN.symm, ⟨hV.mono (fun _ _ _ _ => trivial), R_stT rfl h.cm (fun k _ _ hc => hty k 22 (by decide) hc), R_stT rfl h.is (fun k _ _ hc => hty k 4 (by decide) hc), h.lh, h.lb, h.at_, h.bl.trans hb2⟩, .inr ⟨rfl, i.toNat, ei, by omega, by omega, by omega, by rw [← ei]; exact hn1, by rw [← ei]⟩, hfr, hty⟩
theorem told_note {B g10 g11 a : Nat} {v : Value} {T : List (List Int)} {cs10 cs11 : Array Value} (h : Told W B tru v T) (h10 : W.heap[g10]? = some (.cells cs10 22 (0, 0))) (h11 : W.heap[g11]? = some (.cells cs11 4 (0, 0))) (hn : ∀ k, v.ownBlock = some k → k ≠ g10) (u1 u2 : Value) : Told ((W.setCell ⟨g10, a, none⟩ u1).setCell ⟨g11, a, none⟩ u2) B tru v T := by
  obtain ⟨hs, h1, h2⟩ := h.out
  have key : ∀ k t : Nat, k ≠ g10 → 4 ≠ t → (∃ cells, W.heap[k]? = some (Obj.cells cells t (0, 0))) → ((W.setCell ⟨g10, a, none⟩ u1).setCell ⟨g11, a, none⟩ u2).heap[k]? = W.heap[k]? := fun k t q ht hc => by
    obtain ⟨cells, hc⟩ := hc
    have e2 : k ≠ g11 := by
      rintro rfl
      rw [h11] at hc
      injection hc with hc
      injection hc with _ hc
      exact ht hc
    exact (Below.heap_setCell _ ⟨g11, a, none⟩ _ k e2).trans (Below.heap_setCell _ ⟨g10, a, none⟩ _ k q)
  refine ⟨hs, R_stT rfl h1 (fun k e _ hc => key k 22 (hn k e) (by decide) hc), h2.mono (fun x l hx => hx.st (fun k _ _ _ hc => ⟨key k 5 (fun e => ?_) (by decide) hc, trivial⟩))⟩
  obtain ⟨cells, hc⟩ := hc
  rw [e, h10] at hc
  injection hc with hc
  injection hc with _ hc
  cases hc
/-- an item is noted -/
theorem OI.note {g10 g11 c10 c11 : Nat} (h : OI w W g mb n ww nx (.slice (some ⟨g10, 0, none⟩) n c10) (.slice (some ⟨g11, 0, none⟩) n c11) hs bs cb L) {a : Nat} (ha : a < n) {A : Option Addr} {m c : Nat} {d : List Int} (hm : d.length = m) (hmc : m ≤ c) (hC : Kd.C (Kd.int .u8) w A m d) (hcb : cb.length = n) :
    OI w ((W.setCell ⟨g10, a, none⟩ (.slice A m c)).setCell ⟨g11, a, none⟩ (.bool true)) g mb n ww nx (.slice (some ⟨g10, 0, none⟩) n c10) (.slice (some ⟨g11, 0, none⟩) n c11) (hs.set a (A, m, c)) (bs.set a true) (cb.set a d) L := by
  obtain ⟨F, hF, _, _⟩ := h.rv.rv
  obtain ⟨cs10, h10⟩ := Kd.R_typed h.cm g10 rfl
  obtain ⟨cs11, h11⟩ := Kd.R_typed h.is g11 rfl
  have h1 : Kd.R ksl 22 (W.setCell ⟨g10, a, none⟩ (.slice A m c)) w.heap.size (fun _ => True) (.slice (some ⟨g10, 0, none⟩) n c10) (hs.set a (A, m, c)) := Kd.R_putn h.cm (a : Int) (A, m, c)
  have h2 : Kd.R Kd.bool 4 (W.setCell ⟨g10, a, none⟩ (.slice A m c)) w.heap.size (fun _ => True) (.slice (some ⟨g11, 0, none⟩) n c11) bs := Kd.R_set h.is h10 (by decide) _ _
  have h11' : (W.setCell ⟨g10, a, none⟩ (.slice A m c)).heap[g11]? = some (.cells cs11 4 (0, 0)) := blk_far h11 (p := ⟨g10, a, none⟩) (by
    rintro rfl
    rw [h10] at h11
    injection h11 with h11
    injection h11 with _ h11
    cases h11) _
  have hk : ∀ k, (∀ cells, W.heap[k]? ≠ some (Obj.cells cells 22 (0, 0))) → (∀ cells, W.heap[k]? ≠ some (Obj.cells cells 4 (0, 0))) → ((W.setCell ⟨g10, a, none⟩ (.slice A m c)).setCell ⟨g11, a, none⟩ (.bool true)).heap[k]? = W.heap[k]? := fun k q1 q2 => by
    have e1 : k ≠ g10 := fun e => q1 cs10 (e ▸ h10)
    have e2 : k ≠ g11 := fun e => q2 cs11 (e ▸ h11)
    exact (Below.heap_setCell _ ⟨g11, a, none⟩ _ k e2).trans (Below.heap_setCell _ ⟨g10, a, none⟩ _ k e1)
  refine ⟨h.rv.st (hk g ?_ ?_) (hk mb ?_ ?_) (fun k _ _ _ hc => ⟨hk k ?_ ?_, trivial⟩), Kd.R_set h1 h11' (by decide) _ _, Kd.R_putn h2 (a : Int) true, by rw [List.length_set]; exact h.lh, by rw [List.length_set]; exact h.lb, fun j hj hbj => ?_, (h.bl.setCell (p := ⟨g10, a, none⟩) (Kd.R_base h.cm g10 rfl) _).setCell (p := ⟨g11, a, none⟩) (Kd.R_base h.is g11 rfl) _⟩
  · intro cells e; rw [hF.blk] at e; injection e with e; injection e with _ e; cases e
  · intro cells e; rw [hF.blk] at e; injection e with e; injection e with _ e; cases e
  · intro cells e; obtain ⟨es, cl, hm2, _⟩ := hF.mp; rw [hm2] at e; cases e
  · intro cells e; obtain ⟨es, cl, hm2, _⟩ := hF.mp; rw [hm2] at e; cases e
  · intro cells e; obtain ⟨c5, hc⟩ := hc; rw [hc] at e; injection e with e; injection e with _ e; cases e
  · intro cells e; obtain ⟨c5, hc⟩ := hc; rw [hc] at e; injection e with e; injection e with _ e; cases e
  · rw [getD_set _ _ _ _ _ (by rw [h.lh]; exact ha), getD_set _ _ _ _ _ (by rw [hcb]; exact ha)]
    rw [getD_set _ _ _ _ _ (by rw [h.lb]; exact ha)] at hbj
    by_cases e : j = a
    · rw [if_pos e, if_pos e, hm]
      exact ⟨rfl, hmc, hC⟩
    · rw [if_neg e] at hbj
      rw [if_neg e, if_neg e]
      exact h.at_ j hj hbj
/-- the cells of what came -/
theorem OI.cells {g10 g11 c10 c11 : Nat} (h : OI w W g mb n ww nx (.slice (some ⟨g10, 0, none⟩) n c10) (.slice (some ⟨g11, 0, none⟩) n c11) hs bs cb L) (p : Nat) (hp : p < n) :
    W.cell? ⟨g10, p, none⟩ = some (.slice (hs.getD p zh).1 (hs.getD p zh).2.1 (hs.getD p zh).2.2) ∧ W.cell? ⟨g11, p, none⟩ = some (.bool (bs.getD p false)) ∧ W.frozen? ⟨g10, p, none⟩ = false ∧ W.frozen? ⟨g11, p, none⟩ = false := by
  obtain ⟨cs, _, hM, hc, hf⟩ := Kd.R_elem h.cm zh (p : Int) (by omega) (by omega)
  obtain rfl : cs = [.slice (hs.getD (p : Int).toNat zh).1 (hs.getD (p : Int).toNat zh).2.1 (hs.getD (p : Int).toNat zh).2.2] := hM
  obtain ⟨cs2, _, hM2, hc2, hf2⟩ := Kd.R_elem h.is false (p : Int) (by omega) (by omega)
  obtain rfl : cs2 = [.bool (bs.getD (p : Int).toNat false)] := hM2
  have h1 := hc 0 _ rfl
  have h2 := hc2 0 _ rfl
  have f1 := hf 0
  have f2 := hf2 0
  have e1 : ksl.sz = 1 := rfl
  have e2 : Kd.bool.sz = 1 := rfl
  rw [e1] at h1 f1
  rw [e2] at h2 f2
  simp only [Int.toNat_natCast, Nat.mul_one, Nat.add_zero] at h1 h2 f1 f2
  exact ⟨h1, h2, f1, f2⟩
end
end Go.Proofs.Ythkiedkifhloeaa.Lib
