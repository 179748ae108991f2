/- receiver: the receiver in a law's words: what it holds, Take, Ranges, what is told. -/
import Derived.Test.YthkiedkifhloeaaV3
import Derived.Test.YthkiedkifhloeaaV5
namespace Go.Proofs.Ythkiedkifhloeaa.Lib
open Go.RowKit Go.Proofs.YthkiedkifhloeaaW.PrintWords Go.Proofs.YthkiedkifhloeaaW.PrintLast Go.Proofs.YthkiedkifhloeaaW.PrintMore
set_option linter.unusedVariables false
set_option linter.unusedSimpArgs false
/-- a row of bytes as it lies -/
def RowR (W : World) (B : Nat) (ok : Nat → Prop) (h : Hd) (l : List Int) : Prop := Kd.R (Kd.int .u8) 5 W B ok (hv h) l
/-- what may be written behind a call -/
def okN (ok : Nat → Prop) (W : World) (k : Nat) : Prop := ok k ∨ W.heap.size ≤ k
theorem RowR.st {W W1 : World} {B : Nat} {ok ok' : Nat → Prop} {h : Hd} {l : List Int} (hr : RowR W B ok h l) (hm : ∀ k, ok k → B ≤ k → k < W.heap.size → (∃ cells, W.heap[k]? = some (.cells cells 5 (0, 0))) → W1.heap[k]? = W.heap[k]? ∧ ok' k) : RowR W1 B ok' h l := by
  have h1 := Kd.R_bound (Kd.R_tight rfl hr)
  have h2 : ∀ k, (some k = (hv h).ownBlock ∧ B ≤ k ∧ k < W.heap.size ∧ ∃ q, q ∈ 5 :: (Kd.int .u8).E ∧ ∃ cells, W.heap[k]? = some (.cells cells q (0, 0))) → W1.heap[k]? = W.heap[k]? ∧ ok' k := fun k hk => by
    obtain ⟨e, hb, hlt, _⟩ := hk
    exact hm k (hr.1 k e.symm) hb hlt (Kd.R_typed hr k e.symm)
  exact Kd.R_mono (Kd.R_step h1 (fun k hk _ => (h2 k hk).1)) (fun k hk => (h2 k hk).2)
theorem RowR.mono {W : World} {B : Nat} {ok ok' : Nat → Prop} {h : Hd} {l : List Int} (hr : RowR W B ok h l) (hm : ∀ k, ok k → B ≤ k → k < W.heap.size → ok' k) : RowR W B ok' h l := hr.st (fun k a b c _ => ⟨rfl, hm k a b c⟩)
/-- the receiver, and what it holds -/
structure Rv (W : World) (B : Nat) (ok : Nat → Prop) (g mb : Nat) (n w nx : Int) (L : List (Int × List Int)) : Prop where
  rv : ∃ F, IsRv W g mb n w nx F ∧ RelL (RowR W B ok) F L ∧ RvB n w nx F
  ge : B ≤ g ∧ B ≤ mb
theorem RvB.rel {α β : Type} {R : α → β → Prop} {n w nx : Int} {F : List (Int × α)} {L : List (Int × β)} (h : RvB n w nx F) (hr : RelL R F L) : RvB n w nx L := by
  have hk := hr.keys
  refine ⟨h.n0, h.n1, h.n2, h.w1, h.w2, ?_, fun x hx => ?_, fun x hx => ?_⟩
  · have h1 : (F.map Prod.fst).Pairwise (fun a b => a < b) := List.pairwise_map.2 h.asc
    rw [hk] at h1
    exact List.pairwise_map.1 h1
  · have : x.1 ∈ F.map Prod.fst := by rw [hk]; exact List.mem_map_of_mem hx
    obtain ⟨y, hy, e⟩ := List.mem_map.1 this
    rw [← e]
    exact h.lo y hy
  · have : x.1 ∈ F.map Prod.fst := by rw [hk]; exact List.mem_map_of_mem hx
    obtain ⟨y, hy, e⟩ := List.mem_map.1 this
    rw [← e]
    exact h.hi y hy
section
variable {W W1 : World} {B : Nat} {ok ok' : Nat → Prop} {g mb : Nat} {n w nx : Int} {L : List (Int × List Int)}
theorem Rv.b (h : Rv W B ok g mb n w nx L) : RvB n w nx L := by
  obtain ⟨F, _, h2, h3⟩ := h.rv
  exact h3.rel h2
theorem Rv.lt (h : Rv W B ok g mb n w nx L) : g < W.heap.size ∧ mb < W.heap.size := by
  obtain ⟨F, h1, _, _⟩ := h.rv
  exact ⟨h1.lt.1, h1.lt.2.1⟩
theorem Rv.st (h : Rv W B ok g mb n w nx L) (hg : W1.heap[g]? = W.heap[g]?) (hm : W1.heap[mb]? = W.heap[mb]?) (hr : ∀ k, ok k → B ≤ k → k < W.heap.size → (∃ cells, W.heap[k]? = some (.cells cells 5 (0, 0))) → W1.heap[k]? = W.heap[k]? ∧ ok' k) : Rv W1 B ok' g mb n w nx L := by
  obtain ⟨F, h1, h2, h3⟩ := h.rv
  exact ⟨⟨F, h1.step hg hm, h2.mono (fun a b hab => hab.st hr), h3⟩, h.ge⟩
theorem Rv.below (h : Rv W B ok g mb n w nx L) (hb : Below W.heap.size W W1) : Rv W1 B ok g mb n w nx L := h.st (hb.block _ h.lt.1) (hb.block _ h.lt.2) (fun k a _ c _ => ⟨hb.block k c, a⟩)
theorem Rv.mono (h : Rv W B ok g mb n w nx L) (hm : ∀ k, ok k → B ≤ k → k < W.heap.size → ok' k) : Rv W B ok' g mb n w nx L := h.st rfl rfl (fun k a b c _ => ⟨rfl, hm k a b c⟩)
end
/-- the parts that Take told -/
structure Told (W : World) (B : Nat) (ok : Nat → Prop) (v : Value) (T : List (List Int)) : Prop where
  out : ∃ hs, Kd.R ksl 22 W B (fun _ => True) v hs ∧ Rel2 (RowR W B ok) hs T
section
variable {W W1 : World} {B : Nat} {ok ok' : Nat → Prop} {v : Value} {T : List (List Int)}
theorem Told.st (h : Told W B ok v T) (hm : ∀ k, B ≤ k → k < W.heap.size → (∃ cells, W.heap[k]? = some (.cells cells 22 (0, 0))) → W1.heap[k]? = W.heap[k]?) (hr : ∀ k, ok k → B ≤ k → k < W.heap.size → (∃ cells, W.heap[k]? = some (.cells cells 5 (0, 0))) → W1.heap[k]? = W.heap[k]? ∧ ok' k) : Told W1 B ok' v T := by
  obtain ⟨hs, h1, h2⟩ := h.out
  refine ⟨hs, ?_, h2.mono (fun a b hab => hab.st hr)⟩
  exact Kd.R_mono (Kd.R_step (Kd.R_bound (Kd.R_tight rfl h1)) (fun k hk _ => hm k hk.2.1 hk.2.2.1 (Kd.R_typed h1 k hk.1.symm))) (fun _ _ => trivial)
theorem Told.below (h : Told W B ok v T) (hb : Below W.heap.size W W1) : Told W1 B ok v T := h.st (fun k _ c _ => hb.block k c) (fun k a _ c _ => ⟨hb.block k c, a⟩)
/-- to be read -/
theorem Told.reads (h : Told W B ok v T) : ∃ A c, v = .slice A T.length c ∧ T.length ≤ c ∧ Kd.C (Kd.slice 5 (Kd.int .u8)) W A T.length T := by
  obtain ⟨hs, h1, h2⟩ := h.out
  obtain ⟨A, c, rfl, hc, hC⟩ := Kd.R_reads h1
  have hl := h2.length
  rw [hl] at hc hC ⊢
  refine ⟨A, c, rfl, hc, rfl, hC.2.1, fun hn => ?_⟩
  obtain ⟨ad, e, hcell⟩ := hC.2.2 hn
  refine ⟨ad, e, fun j p hj => ?_⟩
  have hjl := (List.getElem?_eq_some_iff.1 hj).1
  have hjf : j < hs.length := by rw [hl]; exact hjl
  obtain ⟨cs, hlen, hK, hcs⟩ := hcell j hs[j] (List.getElem?_eq_getElem hjf)
  have hr := h2.at_ j hs[j] p (List.getElem?_eq_getElem hjf) hj
  obtain ⟨A2, c2, he, hc2, hC2⟩ := Kd.R_reads hr
  refine ⟨cs, hlen, ?_, hcs⟩
  have hK' : cs = [hv hs[j]] := hK
  rw [hK', he]
  exact ⟨A2, c2, rfl, hc2, hC2⟩
end
theorem told_bytes {n w nx : Int} {L : List (Int × List Int)} : ∀ (L : List (Int × List Int)) (nx : Int), (∀ x ∈ L, Bytes x.2) → (∀ l ∈ (popL nx L).2.2, Bytes l) ∧ ∀ x ∈ (popL nx L).2.1, Bytes x.2
  | [], nx, _ => ⟨fun l hl => absurd hl List.not_mem_nil, fun x hx => absurd hx List.not_mem_nil⟩
  | x :: L, nx, h => by
    by_cases e : x.1 = nx
    · rw [popL_eq e]
      obtain ⟨h1, h2⟩ := told_bytes (n := n) (w := w) (nx := nx) (L := L) L (nx + 1) (fun y hy => h y (List.mem_cons_of_mem _ hy))
      refine ⟨fun l hl => ?_, h2⟩
      rcases List.mem_cons.1 hl with rfl | hl
      · exact h x List.mem_cons_self
      · exact h1 l hl
    · rw [popL_ne e]
      exact ⟨fun l hl => absurd hl List.not_mem_nil, h⟩
section
variable {W : World} {B : Nat} {ok : Nat → Prop} {g mb : Nat} {n w nx : Int} {L : List (Int × List Int)}
theorem rv_new (n w : Int) (W : World) (ok : Nat → Prop) (hn : 0 ≤ n ∧ n ≤ 1048577) (hw : 1 ≤ w ∧ w ≤ 64) :
    Calls Try.prog 8 #[.int .i64 n, .int .i64 w] W fun e W' => ∃ g mb, e = .returned (.tuple #[.pointer (some ⟨g, 0, none⟩), .int .i64 0]) ∧ Rv W' W.heap.size ok g mb n w 0 [] ∧ Below W.heap.size W W' := by
  refine (new_walk n w W hn hw).mono ?_
  rintro e W' ⟨g, mb, rfl, h, hg, hm, hb⟩
  exact ⟨g, mb, rfl, ⟨⟨[], h, trivial, ⟨Int.le_refl _, hn.1, hn.2, hw.1, hw.2, List.Pairwise.nil, fun x hx => absurd hx List.not_mem_nil, fun x hx => absurd hx List.not_mem_nil⟩⟩, hg, hm⟩, hb⟩
theorem rv_held (h : Rv W B ok g mb n w nx L) : Calls Try.prog 17 #[.pointer (some ⟨g, 0, none⟩)] W fun e W' => e = .returned (.int .i64 L.length) ∧ W' = W := by
  obtain ⟨F, h1, h2, h3⟩ := h.rv
  rw [← h2.length]
  exact held_walk h1
theorem rv_next (h : Rv W B ok g mb n w nx L) : Calls Try.prog 15 #[.pointer (some ⟨g, 0, none⟩)] W fun e W' => e = .returned (.int .i64 nx) ∧ W' = W := by
  obtain ⟨F, h1, h2, h3⟩ := h.rv
  exact next_walk h1
theorem rv_done (h : Rv W B ok g mb n w nx L) : Calls Try.prog 9 #[.pointer (some ⟨g, 0, none⟩)] W fun e W' => e = .returned (.bool (nx == n)) ∧ Drawn0 W W' := by
  obtain ⟨F, h1, h2, h3⟩ := h.rv
  exact done_walk h1
theorem rv_ranges (h : Rv W B ok g mb n w nx L) : Calls Try.prog 20 #[.pointer (some ⟨g, 0, none⟩)] W fun e W' => ∃ A N c, e = .returned (.slice A N c) ∧ (rgL (L.map Prod.fst) []).length = N ∧ Kd.R kr 48 W' W.heap.size (fun _ => True) (.slice A N c) (rgL (L.map Prod.fst) []) ∧ Below W.heap.size W W' := by
  obtain ⟨F, h1, h2, h3⟩ := h.rv
  rw [← h2.keys]
  exact ranges_walk h1 h3
theorem rv_no (h : Rv W B ok g mb n w nx L) (i : Int) (hi : (Lit.int .i64 i).wf = true) (v : Value) (hno : i < nx ∨ n ≤ i ∨ nx + w ≤ i ∨ (atF L i).isSome = true) :
    Calls Try.prog 10 #[.pointer (some ⟨g, 0, none⟩), .int .i64 i, v] W fun e W' => e = .returned (.tuple #[.slice none 0 0, .bool false]) ∧ Drawn0 W W' := by
  obtain ⟨F, h1, h2, h3⟩ := h.rv
  refine take_no h1 ⟨h3.n0, h3.n1, h3.n2, h3.w1, h3.w2⟩ i hi v ?_
  rcases hno with a | a | a | a
  · exact .inl a
  · exact .inr (.inl a)
  · exact .inr (.inr (.inl a))
  · refine .inr (.inr (.inr ?_))
    cases hf : atF F i with
    | none =>
      rw [(h2.at_none i).1 hf] at a
      cases a
    | some x => rfl
theorem rv_yesF (h : Rv W B ok g mb n w nx L) (i : Int) (hi : nx ≤ i ∧ i < n ∧ i < nx + w) (hn : atF L i = none) (A : Option Addr) (m c : Nat) (xs : List Int) (hm : xs.length = m) (hC : Kd.C (Kd.int .u8) W A m xs) (hl : m ≤ 1000000) :
    Calls Try.prog 10 #[.pointer (some ⟨g, 0, none⟩), .int .i64 i, .slice A m c] W fun e W' => ∃ Ao No co, e = .returned (.tuple #[.slice Ao No co, .bool true]) ∧ Rv W' B (okN ok W) g mb n w (popL nx (insF i xs L)).1 (popL nx (insF i xs L)).2.1 ∧ Told W' B (okN ok W) (.slice Ao No co) (popL nx (insF i xs L)).2.2 ∧ No = (popL nx (insF i xs L)).2.2.length ∧
      Kept W W' (fun k => k = g ∨ k = mb) ∧ Below B W W' ∧ ∀ k, (Value.slice Ao No co).ownBlock = some k → W.heap.size ≤ k := by
  obtain ⟨F, h1, h2, h3⟩ := h.rv
  have hnF := (h2.at_none i).2 hn
  refine (take_yes (B := B) h1 h.ge h3 i hi hnF A m c xs hm hC hl).mono ?_
  rintro e W' ⟨A1, c1, Ao, No, co, hs, rfl, hV, rfl, hN, hO, hX, hK, hb⟩
  have hB : B ≤ W.heap.size := by have := h.ge; have := h.lt; omega
  have hrow : ∀ a b, RowR W B ok a b → RowR W' B (okN ok W) a b := fun a b hab => hab.st (fun k p q r s => ⟨hK.2 k r (fun hk => by
    obtain ⟨cells, hc⟩ := s
    rcases hk with rfl | rfl
    · rw [h1.blk] at hc
      injection hc with hc
      injection hc with _ hc
      cases hc
    · obtain ⟨es, clock, hm2, _⟩ := h1.mp
      rw [hm2] at hc
      cases hc), .inl p⟩)
  have hnew : RowR W' B (okN ok W) (A1, m, c1) xs := Kd.R_mono (Kd.R_lower (Kd.R_bound hX) hB) (fun k hk => .inr hk.2.1)
  have hrel : RelL (RowR W' B (okN ok W)) (insF i (A1, m, c1) F) (insF i xs L) := (h2.mono hrow).ins hnew
  obtain ⟨p1, p2, p3⟩ := hrel.pop nx
  rw [← p1]
  refine ⟨Ao, No, co, rfl, ⟨⟨_, hV, p2, (h3.take hi hnF _).1⟩, h.ge⟩, ⟨_, Kd.R_lower hO hB, p3⟩, by rw [← p3.length]; exact hN.symm, hK, hb, Kd.R_base hO⟩
theorem rv_yes (h : Rv W B ok g mb n w nx L) (i : Int) (hi : nx ≤ i ∧ i < n ∧ i < nx + w) (hn : atF L i = none) (A : Option Addr) (m c : Nat) (xs : List Int) (hm : xs.length = m) (hC : Kd.C (Kd.int .u8) W A m xs) (hl : m ≤ 1000000) :
    Calls Try.prog 10 #[.pointer (some ⟨g, 0, none⟩), .int .i64 i, .slice A m c] W fun e W' => ∃ Ao No co, e = .returned (.tuple #[.slice Ao No co, .bool true]) ∧ Rv W' B (okN ok W) g mb n w (popL nx (insF i xs L)).1 (popL nx (insF i xs L)).2.1 ∧ Told W' B (okN ok W) (.slice Ao No co) (popL nx (insF i xs L)).2.2 ∧ No = (popL nx (insF i xs L)).2.2.length ∧
      Kept W W' (fun k => k = g ∨ k = mb) ∧ Below B W W' := by
  refine (rv_yesF h i hi hn A m c xs hm hC hl).mono ?_
  rintro e W' ⟨Ao, No, co, h1, h2, h3, h4, h5, h6, _⟩
  exact ⟨Ao, No, co, h1, h2, h3, h4, h5, h6⟩
end
end Go.Proofs.Ythkiedkifhloeaa.Lib
