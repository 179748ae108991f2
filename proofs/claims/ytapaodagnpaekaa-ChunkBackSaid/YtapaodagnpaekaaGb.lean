/- chunk: what gather keeps: the chunks in memory. -/
import Derived.Test.YtapaodagnpaekaaP3
namespace Go.Proofs.Ytapaodagnpaekaa.Lib
open Go.RowKit Go.Proofs.YtapaodagnpaekaaW.PrintWords Go.Proofs.YtapaodagnpaekaaW.PrintLast Go.Proofs.YtapaodagnpaekaaW.PrintMore
set_option linter.unusedVariables false
set_option linter.unusedSimpArgs false
/-- a chunk as it lies -/
structure Sq where
  kind : ByteArray
  size : Int
  A : Option Addr
  n : Nat
  c : Nat
  en : Bool
def zq : Sq := ⟨⟨#[]⟩, 0, none, 0, 0, false⟩
def kq : Kd Sq := Kd.iso (Kd.pair Kd.string (Kd.pair (Kd.int .i64) (Kd.pair ksl Kd.bool))) (fun x => (x.kind, x.size, (x.A, x.n, x.c), x.en))
def Sq.cells (x : Sq) : List Value := [.string x.kind, .int .i64 x.size, .slice x.A x.n x.c, .bool x.en]
theorem kq_openM {w : World} {base : Nat} {ok : Nat → Prop} {x : Sq} {cs : List Value} (h : kq.M w base ok x cs) : cs = x.cells := by
  obtain ⟨_, _, rfl, rfl, ⟨_, _, rfl, rfl, ⟨_, _, rfl, rfl, rfl⟩⟩⟩ := h
  exact rfl
theorem kq_mkM (w : World) (base : Nat) (ok : Nat → Prop) (x : Sq) : kq.M w base ok x x.cells := ⟨[_], [_, _, _], rfl, rfl, ⟨[_], [_, _], rfl, rfl, ⟨[_], [_], rfl, rfl, rfl⟩⟩⟩
theorem info46_ : (Try.prog.info? 46).map (fun i => (i.zero, i.size, i.bytes)) = some (some (.agg #[.string ⟨#[]⟩, .int .i64 0, .slice none 0 0, .bool false]), 4, 56) := by kernel_rfl
theorem pq_at {W : World} {base go n co : Nat} {ok : Nat → Prop} {pcs : List Sq} (h : Kd.R kq 46 W base ok (.slice (some ⟨go, 0, none⟩) n co) pcs) (i : Nat) (hi : i < n) :
    (W.cell? ⟨go, i * 4, none⟩ = some (.string (pcs.getD i zq).kind) ∧ W.cell? ⟨go, i * 4 + 1, none⟩ = some (.int .i64 (pcs.getD i zq).size) ∧ W.cell? ⟨go, i * 4 + 2, none⟩ = some (.slice (pcs.getD i zq).A (pcs.getD i zq).n (pcs.getD i zq).c) ∧ W.cell? ⟨go, i * 4 + 3, none⟩ = some (.bool (pcs.getD i zq).en)) ∧ ∀ j, W.frozen? ⟨go, i * 4 + j, none⟩ = false := by
  obtain ⟨cs, hl, hM, hc, hf⟩ := Kd.R_elem h zq (i : Int) (by omega) (by omega)
  have e4 : kq.sz = 4 := rfl
  rw [e4] at hc hf
  simp only [Int.toNat_natCast] at hM hc hf
  obtain rfl := kq_openM hM
  exact ⟨⟨by simpa using hc 0 _ rfl, by simpa using hc 1 _ rfl, by simpa using hc 2 _ rfl, by simpa using hc 3 _ rfl⟩, hf⟩
theorem pq_set {W : World} {base go n co : Nat} {ok : Nat → Prop} {pcs : List Sq} (h : Kd.R kq 46 W base ok (.slice (some ⟨go, 0, none⟩) n co) pcs) (i : Nat) (hi : i < n) (j : Nat) (hj : j < 4) (u : Value) (x' : Sq) (hx : x'.cells = ((pcs.getD i zq).cells.take j ++ [u] ++ (pcs.getD i zq).cells.drop (j + 1))) :
    Kd.R kq 46 (W.setCell ⟨go, i * 4 + j, none⟩ u) base ok (.slice (some ⟨go, 0, none⟩) n co) (pcs.set i x') := by
  obtain ⟨cs, hl, hM, hc, hf⟩ := Kd.R_elem h zq (i : Int) (by omega) (by omega)
  have e4 : kq.sz = 4 := rfl
  rw [e4] at hc
  simp only [Int.toNat_natCast] at hM hc
  obtain rfl := kq_openM hM
  have h2 := (Kd.R_seg (okp := fun k => False) h (i : Int) (by omega) (by omega) (seg := [u]) (j := j) hl (by rw [e4]; exact hc) (by rw [e4]; simp; omega) (x' := x') (by
    show kq.M _ _ _ x' ((pcs.getD i zq).cells.take j ++ [u] ++ (pcs.getD i zq).cells.drop (j + 1))
    rw [← hx]
    exact kq_mkM _ _ _ _) (fun k hk => hk.elim)).1
  rw [e4] at h2
  simpa [World.setCells] using h2
def Sq.v (x : Sq) : Value := .slice x.A x.n x.c
/-- the chunks in memory -/
structure Got (W : World) (B : Nat) (ok : Nat → Prop) (v : Value) (fs : List Sq) (l : List S46) : Prop where
  row : Kd.R kq 46 W B ok v fs
  len : fs.length = l.length
  at_ : ∀ j, j < l.length → (fs.getD j zq).kind = (l.getD j z46).f0 ∧ (fs.getD j zq).size = (l.getD j z46).f1 ∧ (fs.getD j zq).en = (l.getD j z46).f3 ∧ Kd.R (Kd.int .u8) 5 W B ok (fs.getD j zq).v (l.getD j z46).f2
  apart : ∀ j, j + 1 < l.length → ∀ k, (fs.getD j zq).v.ownBlock = some k → (fs.getD (l.length - 1) zq).v.ownBlock ≠ some k
theorem Got.nil (W : World) (B : Nat) (ok : Nat → Prop) : Got W B ok (.slice none 0 0) [] [] := ⟨Kd.R_nil _ _ _ _ _, rfl, fun j h => by simp at h, fun j h => by simp at h⟩
theorem ne_ty {W : World} {g g' t t' : Nat} {cs cs' : Array Value} (h : W.heap[g]? = some (.cells cs t (0, 0))) (h' : W.heap[g']? = some (.cells cs' t' (0, 0))) (ht : t ≠ t') : g ≠ g' := by
  rintro rfl
  rw [h] at h'
  injection h' with h'
  injection h' with _ e
  exact ht e
section
variable {W W1 : World} {B : Nat} {ok ok' : Nat → Prop} {v : Value} {fs : List Sq} {l : List S46}
theorem Got.step (h : Got W B ok v fs l) (hm : ∀ k, ok k → k < W.heap.size → W1.heap[k]? = W.heap[k]?) : Got W1 B ok v fs l :=
  ⟨Kd.R_step h.row hm, h.len, fun j hj => by obtain ⟨h1, h2, h3, h4⟩ := h.at_ j hj; exact ⟨h1, h2, h3, Kd.R_step h4 hm⟩, h.apart⟩
theorem Got.below (h : Got W B ok v fs l) (hb : Below W.heap.size W W1) : Got W1 B ok v fs l := h.step (fun k _ hk => hb.block k hk)
theorem Got.kept {S : Nat → Prop} (h : Got W B ok v fs l) (hk : Kept W W1 S) (hne : ∀ k, ok k → k < W.heap.size → ¬ S k) : Got W1 B ok v fs l := h.step (fun k ho hlt => hk.2 k hlt (hne k ho hlt))
theorem Got.mono (h : Got W B ok v fs l) (hm : ∀ k, ok k → B ≤ k → k < W.heap.size → ok' k) : Got W B ok' v fs l :=
  ⟨Kd.R_mono (Kd.R_bound h.row) (fun k hk => hm k hk.1 hk.2.1 hk.2.2.1), h.len, fun j hj => by obtain ⟨h1, h2, h3, h4⟩ := h.at_ j hj; exact ⟨h1, h2, h3, Kd.R_mono (Kd.R_bound h4) (fun k hk => hm k hk.1 hk.2.1 hk.2.2.1)⟩, h.apart⟩
/-- a new chunk without bytes -/
theorem Got.push {v1 : Value} {f : Sq} {x : S46} (h : Got W B ok v fs l) (hr : Kd.R kq 46 W1 B ok v1 (fs ++ [f])) (hg : W.grownBy W1 v.ownBlock) (e0 : f.kind = x.f0) (e1 : f.size = x.f1) (e3 : f.en = x.f3) (eA : f.v = .slice none 0 0) (e2 : x.f2 = []) : Got W1 B ok v1 (fs ++ [f]) (l ++ [x]) := by
  refine ⟨hr, by simp [h.len], fun j hj => ?_, fun j hj k hk => ?_⟩
  · rw [List.length_append, List.length_singleton] at hj
    by_cases h1 : j < l.length
    · obtain ⟨a, b, c, d⟩ := h.at_ j h1
      have h3 : j < fs.length := by rw [h.len]; exact h1
      simp only [List.getD_eq_getElem?_getD] at a b c d ⊢
      rw [List.getElem?_append_left h3, List.getElem?_append_left h1]
      exact ⟨a, b, c, Kd.R_over d h.row (by decide) hg⟩
    · have h2 : j = l.length := by omega
      subst h2
      simp only [List.getD_eq_getElem?_getD]
      rw [List.getElem?_append_right (by rw [h.len]; exact Nat.le_refl _), List.getElem?_append_right (Nat.le_refl _), h.len]
      simp only [Nat.sub_self, List.getElem?_cons_zero, Option.getD_some]
      rw [eA, e2]
      exact ⟨e0, e1, e3, Kd.R_nil _ _ _ _ _⟩
  · have : ((fs ++ [f]).getD ((l ++ [x]).length - 1) zq) = f := by
      rw [List.length_append, List.length_singleton, Nat.add_sub_cancel, List.getD_eq_getElem?_getD, ← h.len]
      simp
    rw [this, eA]
    simp [Value.ownBlock]
/-- the last chunk's bytes grow: the row of bytes first -/
theorem Got.data {gq cq p k8 c8 : Nat} {A8 : Option Addr} {x : List Int} (h : Got W B ok (.slice (some ⟨gq, 0, none⟩) (p + 1) cq) fs l) (hl : l.length = p + 1) (hR : Kd.R (Kd.int .u8) 5 W1 B ok (.slice A8 k8 c8) ((l.getD p z46).f2 ++ x)) (hg : W.grownBy W1 (fs.getD p zq).v.ownBlock) (hat : (Value.slice A8 k8 c8).ownBlock = (fs.getD p zq).v.ownBlock ∨ ∃ b, (Value.slice A8 k8 c8).ownBlock = some b ∧ W.heap.size ≤ b) :
    Got (W1.setCell ⟨gq, p * 4 + 2, none⟩ (.slice A8 k8 c8)) B ok (.slice (some ⟨gq, 0, none⟩) (p + 1) cq) (fs.set p { fs.getD p zq with A := A8, n := k8, c := c8 }) (l.set p { l.getD p z46 with f2 := (l.getD p z46).f2 ++ x }) := by
  have hp := (h.at_ p (by omega)).2.2.2
  have hrow := Kd.R_over h.row hp (by decide) hg
  obtain ⟨csg, hgq⟩ := Kd.R_typed hrow gq rfl
  have hfl : fs.length = p + 1 := by rw [h.len]; exact hl
  refine ⟨pq_set hrow p (by omega) 2 (by decide) _ _ rfl, by simp [h.len], fun j hj => ?_, fun j hj k hk => ?_⟩
  · rw [List.length_set] at hj
    obtain ⟨a, b, c, d⟩ := h.at_ j hj
    simp only [List.getD_eq_getElem?_getD] at a b c d ⊢
    by_cases hjp : p = j
    · subst hjp
      rw [List.getElem?_set_self (by omega), List.getElem?_set_self (by omega)]
      exact ⟨a, b, c, Kd.R_set hR hgq (by decide) _ _⟩
    · rw [List.getElem?_set_ne hjp, List.getElem?_set_ne hjp]
      refine ⟨a, b, c, Kd.R_set (Kd.R_reok rfl (Kd.R_grown (Kd.R_tight2 rfl d) hg (fun k hk e => ?_)) (fun k hk => d.1 k hk)) hgq (by decide) _ _⟩
      have h9 := h.apart j (by omega) k (by rw [List.getD_eq_getElem?_getD]; exact hk.1.symm)
      rw [hl, Nat.add_sub_cancel] at h9
      exact h9 e.symm
  · rw [List.length_set] at hj ⊢
    have hjp : p ≠ j := by omega
    simp only [List.getD_eq_getElem?_getD] at hk ⊢
    rw [List.getElem?_set_ne hjp] at hk
    rw [hl, Nat.add_sub_cancel, List.getElem?_set_self (by omega)]
    show (Value.slice A8 k8 c8).ownBlock ≠ some k
    intro e
    rcases hat with h1 | ⟨b, h1, h2⟩
    · have h9 := h.apart j hj k (by rw [List.getD_eq_getElem?_getD]; exact hk)
      rw [hl, Nat.add_sub_cancel] at h9
      exact h9 (by rw [← h1]; exact e)
    · have h9 := Kd.R_lt (h.at_ j (by omega)).2.2.2 k (by rw [List.getD_eq_getElem?_getD]; exact hk)
      rw [h1] at e
      injection e with e
      omega
/-- the last chunk's end -/
theorem Got.ended {gq cq p : Nat} (h : Got W B ok (.slice (some ⟨gq, 0, none⟩) (p + 1) cq) fs l) (hl : l.length = p + 1) (en : Bool) :
    Got (W.setCell ⟨gq, p * 4 + 3, none⟩ (.bool en)) B ok (.slice (some ⟨gq, 0, none⟩) (p + 1) cq) (fs.set p { fs.getD p zq with en := en }) (l.set p { l.getD p z46 with f3 := en }) := by
  obtain ⟨csg, hgq⟩ := Kd.R_typed h.row gq rfl
  have hfl : fs.length = p + 1 := by rw [h.len]; exact hl
  refine ⟨pq_set h.row p (by omega) 3 (by decide) _ _ rfl, by simp [h.len], fun j hj => ?_, fun j hj k hk => ?_⟩
  · rw [List.length_set] at hj
    obtain ⟨a, b, c, d⟩ := h.at_ j hj
    simp only [List.getD_eq_getElem?_getD] at a b c d ⊢
    by_cases hjp : p = j
    · subst hjp
      rw [List.getElem?_set_self (by omega), List.getElem?_set_self (by omega)]
      exact ⟨a, b, rfl, Kd.R_set d hgq (by decide) _ _⟩
    · rw [List.getElem?_set_ne hjp, List.getElem?_set_ne hjp]
      exact ⟨a, b, c, Kd.R_set d hgq (by decide) _ _⟩
  · rw [List.length_set] at hj ⊢
    have hjp : p ≠ j := by omega
    simp only [List.getD_eq_getElem?_getD] at hk ⊢
    rw [List.getElem?_set_ne hjp] at hk
    rw [hl, Nat.add_sub_cancel, List.getElem?_set_self (by omega)]
    have h9 := h.apart j hj k (by rw [List.getD_eq_getElem?_getD]; exact hk)
    rw [hl, Nat.add_sub_cancel, List.getD_eq_getElem?_getD] at h9
    exact h9
/-- all of it, to be read -/
theorem Got.reads (h : Got W B ok v fs l) : ∃ A c, v = .slice A l.length c ∧ l.length ≤ c ∧ Kd.C k46 W A l.length l := by
  obtain ⟨A, c, rfl, hc, hC⟩ := Kd.R_reads h.row
  rw [h.len] at hc hC
  refine ⟨A, c, by rw [h.len], hc, rfl, hC.2.1, fun hn => ?_⟩
  obtain ⟨ad, e, hcell⟩ := hC.2.2 hn
  refine ⟨ad, e, fun j p hj => ?_⟩
  have hjl := (List.getElem?_eq_some_iff.1 hj).1
  have hjf : j < fs.length := by rw [h.len]; exact hjl
  obtain ⟨cs, hlen, hK, hcs⟩ := hcell j fs[j] (List.getElem?_eq_getElem hjf)
  obtain ⟨a, b, c', d⟩ := h.at_ j hjl
  have hp : l.getD j z46 = p := by rw [List.getD_eq_getElem?_getD, hj]; rfl
  have hf : fs.getD j zq = fs[j] := by rw [List.getD_eq_getElem?_getD, List.getElem?_eq_getElem hjf]; rfl
  rw [hp, hf] at a b c' d
  refine ⟨cs, hlen, ?_, hcs⟩
  obtain ⟨_, _, rfl, rfl, ⟨_, _, rfl, rfl, ⟨_, _, rfl, rfl, rfl⟩⟩⟩ := hK
  obtain ⟨A2, c2, he, hc2, hC2⟩ := Kd.R_reads d
  have he' : Value.slice fs[j].A fs[j].n fs[j].c = .slice A2 p.f2.length c2 := he
  have h9 := k46_mk W p hc2 hC2
  rw [← he', ← a, ← b, ← c'] at h9
  exact h9
end
end Go.Proofs.Ytapaodagnpaekaa.Lib
