/- ReceiverPlays: both receivers in the law's words: what they hold, their Takes. -/
import Derived.Test.YthkiedkifhloeaaR4
namespace Go.Proofs.Ythkiedkifhloeaa.Lib
open Go.RowKit Go.Proofs.YthkiedkifhloeaaW.PrintWords Go.Proofs.YthkiedkifhloeaaW.PrintLast Go.Proofs.YthkiedkifhloeaaW.PrintMore
set_option linter.unusedVariables false
set_option linter.unusedSimpArgs false
theorem Rel2.of_at {α β : Type} {R : α → β → Prop} (za : α) (zb : β) : ∀ {F : List α} {L : List β}, F.length = L.length → (∀ s, s < L.length → R (F.getD s za) (L.getD s zb)) → Rel2 R F L
  | [], [], _, _ => trivial
  | x :: F, l :: L, h, k => ⟨by simpa using k 0 (by simp), Rel2.of_at za zb (by simpa using h) (fun s hs => by simpa using k (s + 1) (by simpa using hs))⟩
  | [], _ :: _, h, _ => by simp at h
  | _ :: _, [], h, _ => by simp at h
theorem outD_getD (hs : List Hd) (nx k s : Nat) (h : s < k - nx) (hk : k ≤ hs.length) : (outD hs nx k).getD s zh = hs.getD (nx + s) zh := by
  unfold outD
  rw [List.getD_eq_getElem?_getD, List.getElem?_take, if_pos h, List.getElem?_drop, List.getD_eq_getElem?_getD]
theorem PO.nextIs {n nx : Nat} {w : Int} {L : List (Int × List Int)} {bs : List Bool} {cb : List (List Int)} (h : PO n w (nx : Int) L bs cb) : NextIs n nx bs := by
  have h1 := h.b.n1
  refine ⟨by omega, fun j hj => (h.iff j (by omega)).2 (.inl (by omega)), fun hn => ?_⟩
  have h2 := h.next (by omega)
  rw [Int.toNat_natCast] at h2
  exact h2
/-- the document's receiver, and what it holds -/
structure Rf (W : World) (B : Nat) (ok : Nat → Prop) (h n : Nat) (vD vC : Value) (ww : Int) (hs : List Hd) (bs : List Bool) (cb : List (List Int)) : Prop where
  rf : IsRf W B h vD vC n ww hs bs
  rows : ∀ j, j < n → bs.getD j false = true → RowR W B ok (hs.getD j zh) (cb.getD j [])
section
variable {W W1 : World} {B : Nat} {ok ok' : Nat → Prop} {h n : Nat} {vD vC : Value} {ww : Int} {hs : List Hd} {bs : List Bool} {cb : List (List Int)}
theorem Rf.st (hf : Rf W B ok h n vD vC ww hs bs cb) (hk : ∀ k t : Nat, (t = 55 ∨ t = 22 ∨ t = 4) → (∃ cells, W.heap[k]? = some (Obj.cells cells t (0, 0))) → W1.heap[k]? = W.heap[k]?) (hr : ∀ k, ok k → B ≤ k → k < W.heap.size → (∃ cells, W.heap[k]? = some (.cells cells 5 (0, 0))) → W1.heap[k]? = W.heap[k]? ∧ ok' k) : Rf W1 B ok' h n vD vC ww hs bs cb :=
  ⟨hf.rf.ty hk, fun j hj hb => (hf.rows j hj hb).st hr⟩
theorem Rf.below (hf : Rf W B ok h n vD vC ww hs bs cb) (hb : Below W.heap.size W W1) : Rf W1 B ok h n vD vC ww hs bs cb :=
  hf.st (fun k t _ hc => by obtain ⟨cells, hc⟩ := hc; exact hb.block k (blk_lt hc)) (fun k a _ c _ => ⟨hb.block k c, a⟩)
end
theorem ty_ne {W : World} {k k' t t' : Nat} (h : ∃ cells, W.heap[k]? = some (Obj.cells cells t (0, 0))) (h' : ∃ cells, W.heap[k']? = some (Obj.cells cells t' (0, 0))) (ht : t ≠ t') : k ≠ k' := by
  rintro rfl
  obtain ⟨c, h⟩ := h
  obtain ⟨c', h'⟩ := h'
  rw [h] at h'
  injection h' with h'
  injection h' with _ h'
  exact ht h'
theorem ty_map {W : World} {k k' t cl : Nat} {es : Array MapEntry} (h : W.heap[k]? = some (.map es cl)) (h' : ∃ cells, W.heap[k']? = some (Obj.cells cells t (0, 0))) : k ≠ k' := by
  rintro rfl
  obtain ⟨c', h'⟩ := h'
  rw [h] at h'
  cases h'
/-- how an item fares -/
def Dec (n : Nat) (ww nx : Int) (L : List (Int × List Int)) (i : Int) (d : List Int) (bb : Bool) (nx' : Int) (L' : List (Int × List Int)) (T : List (List Int)) : Prop :=
  (bb = false ∧ nx' = nx ∧ L' = L ∧ T = [] ∧ (i < nx ∨ (n : Int) ≤ i ∨ nx + ww ≤ i ∨ (atF L i).isSome = true)) ∨
    (bb = true ∧ ∃ a : Nat, i = (a : Int) ∧ nx ≤ (a : Int) ∧ a < n ∧ (a : Int) < nx + ww ∧ atF L (a : Int) = none ∧ popL nx (insF (a : Int) d L) = (nx', L', T))
theorem r_take {W : World} {B g mb n : Nat} {ok : Nat → Prop} {ww nx : Int} {L : List (Int × List Int)} (h : Rv W B ok g mb (n : Int) ww nx L) (hokn : ∀ k, W.heap.size ≤ k → ok k) (i : Int) (hi : (Lit.int .i64 i).wf = true) (A : Option Addr) (m c : Nat) (d : List Int) (hm : d.length = m) (hC : Kd.C (Kd.int .u8) W A m d) (hl : m ≤ 1000000) :
    Calls Try.prog 10 #[.pointer (some ⟨g, 0, none⟩), .int .i64 i, .slice A m c] W fun e W' => ∃ Ao No co bb nx' L' T, e = .returned (.tuple #[.slice Ao No co, .bool bb]) ∧ Rv W' B ok g mb (n : Int) ww nx' L' ∧ Told W' B ok (.slice Ao No co) T ∧ T.length = No ∧ Dec n ww nx L i d bb nx' L' T ∧
      (∀ k, (Value.slice Ao No co).ownBlock = some k → W.heap.size ≤ k) ∧ (∀ k t : Nat, 51 ≠ t → (∃ cells, W.heap[k]? = some (Obj.cells cells t (0, 0))) → W'.heap[k]? = W.heap[k]?) ∧ Below B W W' := by
  by_cases hno : i < nx ∨ (n : Int) ≤ i ∨ nx + ww ≤ i ∨ (atF L i).isSome = true
  · refine (rv_no h i hi _ hno).mono ?_
    rintro e W' ⟨rfl, q, rfl⟩
    exact ⟨none, 0, 0, false, nx, L, [], rfl, h.below (pw_below_drewN (Below.refl _ _) q), Told.empty, rfl, .inl ⟨rfl, rfl, rfl, rfl, hno⟩, (fun k hk => by simp [Value.ownBlock] at hk), (fun _ _ _ _ => rfl), (pw_below_drewN (Below.refl _ _) q)⟩
  · have hn1 : atF L i = none := by
      cases hf : atF L i with
      | none => rfl
      | some y => exact absurd (.inr (.inr (.inr (by rw [hf]; rfl)))) hno
    have h1 : nx ≤ i := by
      by_cases q : i < nx
      · exact absurd (.inl q) hno
      · omega
    have h2 : i < n := by
      by_cases q : (n : Int) ≤ i
      · exact absurd (.inr (.inl q)) hno
      · omega
    have h3 : i < nx + ww := by
      by_cases q : nx + ww ≤ i
      · exact absurd (.inr (.inr (.inl q))) hno
      · omega
    refine (rv_yesF h i ⟨h1, h2, h3⟩ hn1 A m c d hm hC hl).mono ?_
    rintro e W' ⟨Ao, No, co, rfl, hV, hT, hN, hK, hb2, hfr⟩
    obtain ⟨F, hF, _, _⟩ := h.rv
    have hty : ∀ (k t : Nat), 51 ≠ t → (∃ cells, W.heap[k]? = some (.cells cells t (0, 0))) → W'.heap[k]? = W.heap[k]? := fun k t ht hc => kept_ty hF hK ht hc
    have h0 := h.b.n0
    have ei : i = ((i.toNat : Nat) : Int) := by omega
    have hok2 : ∀ k, okN ok W k → ok k := fun k hk => hk.elim id (hokn k)
    exact ⟨Ao, No, co, true, _, _, _, rfl, hV.mono (fun k hk _ _ => hok2 k hk), hT.st (fun _ _ _ _ => rfl) (fun k hk _ _ _ => ⟨rfl, hok2 k hk⟩), hN.symm, .inr ⟨rfl, i.toNat, ei, by omega, by omega, by omega, by rw [← ei]; exact hn1, by rw [← ei]⟩, hfr, hty, hb2⟩
theorem x_take {w W : World} {ok : Nat → Prop} {h n nx : Nat} {vD vC : Value} {ww : Int} {hs : List Hd} {bs : List Bool} {cb : List (List Int)} {L : List (Int × List Int)} (hb0 : Below w.heap.size w W) (hf : Rf W w.heap.size ok h n vD vC ww hs bs cb) (hp : PO n ww (nx : Int) L bs cb) (hokn : ∀ k, W.heap.size ≤ k → ok k)
    (i : Int) (A : Option Addr) (m c : Nat) (d : List Int) (hm : d.length = m) (hC : Kd.C (Kd.int .u8) w A m d) (hl : m ≤ 1000000) {bb : Bool} {nx' : Int} {L' : List (Int × List Int)} {T : List (List Int)} (hD : Dec n ww (nx : Int) L i d bb nx' L' T) :
    Calls Try.prog 13 #[.pointer (some ⟨h, 0, none⟩), .int .i64 i, .slice A m c] W fun e W' => ∃ Aq Nq cq hs' bs' cb' p2, e = .returned (.tuple #[.slice Aq Nq cq, .bool bb]) ∧ nx' = ((p2 : Nat) : Int) ∧ Rf W' w.heap.size ok h n vD vC ww hs' bs' cb' ∧ Told W' w.heap.size ok (.slice Aq Nq cq) T ∧ T.length = Nq ∧ PO n ww (p2 : Int) L' bs' cb' ∧
      Kept W W' (fun k => some k = vD.ownBlock ∨ some k = vC.ownBlock) ∧ Below w.heap.size W W' := by
  have hn : n ≤ 1048577 := by have := hp.b.n2; omega
  have hw : 1 ≤ ww ∧ ww ≤ 64 := ⟨hp.b.w1, hp.b.w2⟩
  rcases hD with ⟨rfl, rfl, rfl, rfl, hno⟩ | ⟨rfl, a, rfl, h1, h2, h3, h4, h5⟩
  · refine (rf_no hf.rf hp.nextIs hn hw i _ ?_).mono ?_
    · rcases hno with q | q | q | q
      · exact .inl q
      · exact .inr (.inl q)
      · exact .inr (.inr (.inl q))
      · by_cases c1 : i < nx
        · exact .inl c1
        · by_cases c2 : (n : Int) ≤ i
          · exact .inr (.inl c2)
          · refine .inr (.inr (.inr ((hp.iff i.toNat (by omega)).2 (.inr ?_))))
            rw [show ((i.toNat : Nat) : Int) = i from by omega]
            exact q
    · rintro e W' ⟨rfl, rfl⟩
      exact ⟨none, 0, 0, hs, bs, cb, nx, rfl, rfl, hf, Told.empty, rfl, hp, Kept.refl _ _, Below.refl _ _⟩
  · obtain ⟨gD, cD, rfl, _⟩ := rowA_form hf.rf.lh (by omega) hf.rf.dat
    obtain ⟨gC, cC, rfl, _⟩ := rowA_form hf.rf.lb (by omega) hf.rf.come
    obtain ⟨hba, hp2, hlen, hT⟩ := hp.take ⟨h1, by omega, h3⟩ h4 d
    rw [h5] at hp2 hlen hT
    simp only at hp2 hlen hT
    obtain ⟨p2, rfl⟩ : ∃ p2 : Nat, nx' = (p2 : Int) := ⟨nx'.toNat, by have := hp2.b.n0; omega⟩
    have hp2n : p2 ≤ n := by have := hp2.b.n1; omega
    have hTl : T.length = p2 - nx := by omega
    refine (rf_yes hb0 hf.rf hp.nextIs hn hw a ⟨by omega, h2, h3⟩ hba hp2.nextIs (by omega) A m c d hm hC hl).mono ?_
    rintro e W' ⟨A1, c1, Ao, No, co, rfl, hF', hX, hNo, hO, hK, hB⟩
    have hrows : ∀ j, j < n → (bs.set a true).getD j false = true → RowR W' w.heap.size ok ((hs.set a (A1, m, c1)).getD j zh) ((cb.set a d).getD j []) := fun j hj hbj => by
      rw [getD_set _ _ _ _ _ (by rw [hf.rf.lh]; exact h2), getD_set _ _ _ _ _ (by rw [hp.lc]; exact h2)]
      rw [getD_set _ _ _ _ _ (by rw [hf.rf.lb]; exact h2)] at hbj
      by_cases e : j = a
      · rw [if_pos e, if_pos e]
        exact Kd.R_mono (Kd.R_lower (Kd.R_bound hX) hb0.size) (fun k hk => hokn k hk.2.1)
      · rw [if_neg e] at hbj
        rw [if_neg e, if_neg e]
        refine (hf.rows j hj hbj).st (fun k q1 q2 q3 q4 => ⟨hK.2 k q3 ?_, q1⟩)
        rintro (e2 | e2)
        · exact ty_ne q4 (Kd.R_typed hf.rf.dat gD rfl) (by decide) e2
        · exact ty_ne q4 (Kd.R_typed hf.rf.come gC rfl) (by decide) e2
    have hl2 : (hs.set a (A1, m, c1)).length = n := by rw [List.length_set]; exact hf.rf.lh
    refine ⟨Ao, No, co, _, _, _, p2, rfl, rfl, ⟨hF', hrows⟩, ⟨_, Kd.R_lower hO hb0.size, ?_⟩, by omega, hp2, hK.mono (fun k hk => ?_), hB⟩
    · refine Rel2.of_at zh [] (by rw [outD_len _ _ _ (by omega) (by rw [hl2]; exact hp2n)]; exact hTl.symm) (fun s hs2 => ?_)
      obtain ⟨t1, t2⟩ := hT s hs2
      rw [Int.toNat_natCast] at t1 t2
      rw [outD_getD _ _ _ _ (by omega) (by rw [hl2]; exact hp2n), t1]
      exact hrows (nx + s) (by omega) t2
    · rcases hk with rfl | rfl
      · exact .inl rfl
      · exact .inr rfl
end Go.Proofs.Ythkiedkifhloeaa.Lib
