/- halftonelaw11.gather: walked by hand. -/
import Derived.Test.YtapaodagnpaekaaGb
import Derived.BigQuiet
namespace Go.Proofs.Ytapaodagnpaekaa.Lib
open Go.RowKit Go.Proofs.YtapaodagnpaekaaW.PrintWords Go.Proofs.YtapaodagnpaekaaW.PrintLast Go.Proofs.YtapaodagnpaekaaW.PrintMore
attribute [local go_sem] max2_mx min2_mn max_two min_two
set_option linter.unusedVariables false
set_option linter.unusedSimpArgs false
/-- the blocks that may be written -/
def okN (ok : Nat → Prop) (W : World) : Nat → Prop := fun k => ok k ∨ W.heap.size ≤ k
theorem gathM_le : ∀ (ps : List PS) (l l' : List S46), gathM l ps = some l' → l.length ≤ l'.length ∧ ∀ j, j < l.length → (l.getD j z46).f2.length ≤ (l'.getD j z46).f2.length
  | [], l, l', h => by
    obtain rfl := Option.some.inj (show some l = some l' from h)
    exact ⟨Nat.le_refl _, fun j _ => Nat.le_refl _⟩
  | p :: ps, l, l', h => by
    obtain ⟨l2, h1, h2⟩ := Option.bind_eq_some_iff.1 (show (gath1 l p).bind (fun l' => gathM l' ps) = some l' from h)
    obtain ⟨a, b⟩ := gathM_le ps l2 l' h2
    obtain ⟨m, x, hb, _, _, _, _, rfl⟩ := gath1_inv h1
    have hl : l.length ≤ (m ++ [x]).length ∧ ∀ j, j < l.length → (l.getD j z46).f2.length ≤ ((m ++ [x]).getD j z46).f2.length := by
      rw [← hb]
      unfold gbase
      split
      · refine ⟨by rw [List.length_append]; omega, fun j hj => ?_⟩
        simp only [List.getD_eq_getElem?_getD]
        rw [List.getElem?_append_left hj]
        exact Nat.le_refl _
      · exact ⟨Nat.le_refl _, fun j _ => Nat.le_refl _⟩
    rw [List.length_append, List.length_singleton] at a hl
    refine ⟨by omega, fun j hj => Nat.le_trans (hl.2 j hj) (Nat.le_trans ?_ (b j (by rw [List.length_append, List.length_singleton]; omega)))⟩
    simp only [List.getD_eq_getElem?_getD]
    by_cases hjm : j < m.length
    · rw [List.getElem?_append_left hjm, List.getElem?_append_left hjm]
      exact Nat.le_refl _
    · have : j = m.length := by omega
      subst this
      simp
section
variable {W Wb w8 : World} {B q gq cq : Nat} {ok : Nat → Prop} {v : Value} {fs : List Sq} {L m : List S46} {xA A8 : Option Addr} {xn xc c8 bx : Nat} {pk : ByteArray} {pz : Int} {xd pd : List Int}
theorem gc_form (h : Got Wb B (okN ok W) v fs L) (hl : L.length = q + 1) : ∃ gq cq, v = .slice (some ⟨gq, 0, none⟩) (q + 1) cq ∧ Got Wb B (okN ok W) (.slice (some ⟨gq, 0, none⟩) (q + 1) cq) fs L := by
  obtain ⟨gq, cq, rfl, _⟩ := rowA_form (show fs.length = q + 1 from h.len.trans hl) (by omega) h.row
  exact ⟨gq, cq, rfl, h⟩
theorem gc_at {f : Sq} (h : Got Wb B (okN ok W) (.slice (some ⟨gq, 0, none⟩) (q + 1) cq) fs L) (hf : fs.getD q zq = f) (hl : L.length = q + 1) : Wb.cell? ⟨gq, q * 4, none⟩ = some (.string f.kind) ∧ Wb.cell? ⟨gq, q * 4 + 1, none⟩ = some (.int .i64 f.size) ∧ Wb.cell? ⟨gq, q * 4 + 2, none⟩ = some (.slice f.A f.n f.c) ∧ Wb.cell? ⟨gq, q * 4 + 3, none⟩ = some (.bool f.en) ∧ Wb.frozen? ⟨gq, q * 4 + 2, none⟩ = false := by
  subst hf
  have h1 := pq_at h.row q (by omega)
  exact ⟨h1.1.1, h1.1.2.1, h1.1.2.2.1, h1.1.2.2.2, h1.2 2⟩
theorem gc_eqs {f : Sq} {x : S46} (h : Got Wb B (okN ok W) v fs (m ++ [x])) (hf : fs.getD q zq = f) (hl : (m ++ [x]).length = q + 1) (hm : m.length = q) : f.kind = x.f0 ∧ f.size = x.f1 ∧ f.en = x.f3 := by
  subst hf hm
  have h1 := h.at_ m.length (by rw [List.length_append, List.length_singleton]; omega)
  have h2 : (m ++ [x]).getD m.length z46 = x := by rw [List.getD_eq_getElem?_getD]; simp
  rw [h2] at h1
  exact ⟨h1.1, h1.2.1, h1.2.2.1⟩
theorem gc_row {f : Sq} (h : Got Wb B (okN ok W) v fs L) (hf : fs.getD q zq = f) (hx : (L.getD q z46).f2 = xd) (hl : L.length = q + 1) : Kd.R (Kd.int .u8) 5 Wb B (okN ok W) (.slice f.A f.n f.c) xd := by
  subst hf hx
  exact (h.at_ q (by omega)).2.2.2
theorem gc_after {f : Sq} {cs : Array Value} (h : Got Wb B (okN ok W) (.slice (some ⟨gq, 0, none⟩) (q + 1) cq) fs L) (hbx : Wb.heap[bx]? = some (.cells cs 53 (0, 0))) (hf : fs.getD q zq = f) (hl : L.length = q + 1) (hx : Kd.R (Kd.int .u8) 5 Wb B (okN ok W) (.slice f.A f.n f.c) xd) (hg : Wb.grownBy w8 (Value.slice f.A f.n f.c).ownBlock) :
    w8.cell? ⟨gq, q * 4 + 2, none⟩ = some (.slice f.A f.n f.c) ∧ w8.cell? ⟨bx, 2, none⟩ = cs[2]? ∧ w8.frozen? ⟨gq, q * 4 + 2, none⟩ = false ∧ (w8.setCell ⟨gq, q * 4 + 2, none⟩ (.slice A8 xn c8)).heap[bx]? = some (.cells cs 53 (0, 0)) := by
  have hr := Kd.R_over h.row hx (by decide) hg
  obtain ⟨csg, hgq⟩ := Kd.R_typed hr gq rfl
  have h1 := pq_at hr q (by omega)
  rw [hf] at h1
  have h2 := blk_grown hbx hg (Kd.R_ne hx hbx (by decide))
  exact ⟨h1.1.2.2.1, blk_cell h2 2, h1.2 2, blk_far h2 (p := ⟨gq, q * 4 + 2, none⟩) (ne_ty h2 hgq (by decide)) _⟩
theorem gc_data {f : Sq} {n8 : Nat} (h : Got Wb B (okN ok W) (.slice (some ⟨gq, 0, none⟩) (q + 1) cq) fs L) (hf : fs.getD q zq = f) (hx : (L.getD q z46).f2 = xd) (hl : L.length = q + 1) (hR : Kd.R (Kd.int .u8) 5 w8 B (okN ok W) (.slice A8 n8 c8) (xd ++ pd)) (hg : Wb.grownBy w8 (Value.slice f.A f.n f.c).ownBlock) (hat : (Value.slice A8 n8 c8).ownBlock = (Value.slice f.A f.n f.c).ownBlock ∨ ∃ b, (Value.slice A8 n8 c8).ownBlock = some b ∧ Wb.heap.size ≤ b) :
    Got (w8.setCell ⟨gq, q * 4 + 2, none⟩ (.slice A8 n8 c8)) B (okN ok W) (.slice (some ⟨gq, 0, none⟩) (q + 1) cq) (fs.set q { f with A := A8, n := n8, c := c8 }) (L.set q { L.getD q z46 with f2 := xd ++ pd }) := by
  subst hf hx
  exact h.data hl hR hg hat
theorem gc_kept {W9 : World} {sv : Value} (hk : Kept W W9 ok) (h : Got W9 B (okN ok W) (.slice (some ⟨gq, 0, none⟩) (q + 1) cq) fs L) (hx : Kd.R (Kd.int .u8) 5 W9 B (okN ok W) sv xd) (hg : W9.grownBy w8 sv.ownBlock) (u : Value) (q' : Nat) : Kept W (w8.setCell ⟨gq, q' * 4 + 2, none⟩ u) ok :=
  hk.then_ (kept_set (kept_grown hg (S := okN ok W) (fun k e => hx.1 k e)) (p := ⟨gq, q' * 4 + 2, none⟩) (h.row.1 gq rfl) u) (fun k hk => hk)
theorem below_st {W9 : World} (h : Below B W W9) (hb : Below B W9 w8) (hq : B ≤ gq) (u : Value) (o : Nat) : Below B W (w8.setCell ⟨gq, o, none⟩ u) := (h.trans hb).setCell (p := ⟨gq, o, none⟩) hq u
theorem gc_end {y : S46} (h : Got Wb B (okN ok W) (.slice (some ⟨gq, 0, none⟩) (q + 1) cq) fs ((m ++ [y]).set q { (m ++ [y]).getD q z46 with f2 := xd })) (hm : m.length = q) (pe : Bool) : Got (Wb.setCell ⟨gq, q * 4 + 3, none⟩ (.bool pe)) B (okN ok W) (.slice (some ⟨gq, 0, none⟩) (q + 1) cq) (fs.set q { fs.getD q zq with en := pe }) (m ++ [⟨y.f0, y.f1, xd, pe⟩]) := by
  subst hm
  have e1 : (m ++ [y]).set m.length { (m ++ [y]).getD m.length z46 with f2 := xd } = m ++ [⟨y.f0, y.f1, xd, y.f3⟩] := by
    rw [List.getD_eq_getElem?_getD]
    simp
  rw [e1] at h
  have h2 := h.ended (by rw [List.length_append, List.length_singleton]) pe
  have e2 : (m ++ [(⟨y.f0, y.f1, xd, y.f3⟩ : S46)]).set m.length { (m ++ [(⟨y.f0, y.f1, xd, y.f3⟩ : S46)]).getD m.length z46 with f3 := pe } = m ++ [⟨y.f0, y.f1, xd, pe⟩] := by
    rw [List.getD_eq_getElem?_getD]
    simp
  rw [e2] at h2
  exact h2
end
theorem gc_xd {m : List S46} {x : S46} {q : Nat} (h : m.length = q) : ((m ++ [x]).getD q z46).f2 = x.f2 := by
  rw [← h, List.getD_eq_getElem?_getD]
  simp
theorem gc_pn {pn : Nat} {pd : List Int} (h : pn = pd.length) (h4 : ¬ (false = false ∧ false = false ∧ pd.length = 0)) : ((pn : Int) == 0) = false := by
  have : pn ≠ 0 := fun e => h4 ⟨rfl, rfl, by omega⟩
  simp
  omega
theorem gc_pn1 {pn : Nat} {pd : List Int} (h : pn = pd.length) (h4 : ¬ (false = false ∧ false = false ∧ pd.length = 0)) : ∃ k, pn = k + 1 := by
  have : pn ≠ 0 := fun e => h4 ⟨rfl, rfl, by omega⟩
  exact ⟨pn - 1, by omega⟩
theorem set_same {W : World} {g o : Nat} {t : TypeId} {cs : Array Value} {r : Nat × Nat} (h : W.heap[g]? = some (.cells cs t r)) (v : Value) (e : cs.setIfInBounds o v = cs) : W.setCell ⟨g, o, none⟩ v = W := by
  have key : ∀ f, f (.cells cs t r) = .cells cs t r → W.heap.modify g f = W.heap := by
    intro f hf
    apply Array.ext_getElem?
    intro j
    rw [Array.getElem?_modify]
    split
    · rename_i hj
      subst hj
      rw [h, Option.map_some, hf]
    · rfl
  unfold World.setCell
  simp only
  rw [key _ (by simp [e])]
theorem gc_ne0 (q : Nat) : (((q + 1 : Nat) : Int) == 0) = false := by
  simp
  omega
/-- a piece to be read -/
structure PcR (W : World) (Ap : Option Addr) (t : Nat) (p : PS) (go : Nat) (pA : Option Addr) (pn pc : Nat) : Prop where
  hA : Ap = some ⟨go, 0, none⟩
  c0 : W.cell? ⟨go, t * 5, none⟩ = some (.string p.kind)
  c1 : W.cell? ⟨go, t * 5 + 1, none⟩ = some (.int .i64 p.size)
  c2 : W.cell? ⟨go, t * 5 + 2, none⟩ = some (.slice pA pn pc)
  c3 : W.cell? ⟨go, t * 5 + 3, none⟩ = some (.bool p.bg)
  c4 : W.cell? ⟨go, t * 5 + 4, none⟩ = some (.bool p.en)
  cd : Kd.C (Kd.int .u8) W pA pn p.data
set_option maxHeartbeats 4000000 in
set_option maxRecDepth 100000 in
theorem gather_walk {W : World} {B : Nat} {ok : Nat → Prop} {v : Value} {fs0 : List Sq} {l0 l' : List S46} {ps : List PS} (hG : Got W B ok v fs0 l0) (hBW : B ≤ W.heap.size) (Ap : Option Addr) (n c : Nat) (hn : ps.length = n) (hP : ∀ t, t < n → ∃ go pA pn pc, ∀ W', Kept W W' ok → PcR W' Ap t (ps.getD t zs) go pA pn pc) (hg : gathM l0 ps = some l') (hL : l'.length ≤ 1000000 ∧ ∀ x ∈ l', x.f2.length ≤ 1000000) (hn1 : n ≤ 1000000) :
    Calls Try.prog 13 #[v, .slice Ap n c] W fun e w' => ∃ v' fs', e = .returned (.tuple #[v', .bool true]) ∧ Got w' B (okN ok W) v' fs' l' ∧ Kept W w' ok ∧ Below B W w' := by
  have HN := Aside0.mk hn
  have HPP := Aside0.mk hP
  have HL := Aside0.mk hL
  have HG0 := Aside0.mk (hG.mono (ok' := okN ok W) (fun k h _ _ => .inl h))
  have HGA := Aside0.mk hg
  have HBW := Aside0.mk hBW
  obtain ⟨A0, c0, hv0⟩ := Kd.R_slice hG.row
  subst hv0
  clear hn hP hL hG hg hBW
  go_enter Try.func13, Try.ntmps13
  go_wp2
  go_loopw [0, 11] (fun u i wr => ∃ (t : Nat) (u' : Value), u' = u ∧ i = .int .i64 t ∧ t ≤ n ∧ Aside0 (∃ fs l, Got wr B (okN ok W) u' fs l ∧ gathM l (ps.drop t) = some l') ∧ Aside0 (Kept W wr ok) ∧ Aside0 (Below B W wr)) (fun _ i _ => n - (intOf i).toNat)
  case atStart => exact ⟨0, _, rfl, rfl, Nat.zero_le _, ⟨⟨_, _, HG0.out, HGA.out⟩⟩, ⟨Kept.refl _ _⟩, ⟨Below.refl _ _⟩⟩
  case round =>
    obtain ⟨t, u, rfl, rfl, ht, HGL, HK, HB⟩ := hrel
    obtain ⟨fs, l, hGl, hgl⟩ := HGL.out
    have HGl := Aside0.mk hGl
    clear HGL HG0 HGA
    by_cases hlt : t < n
    · have hdt : ps.drop t = ps.getD t zs :: ps.drop (t + 1) := by
        rw [List.drop_eq_getElem_cons (by rw [HN.out]; exact hlt), List.getD_eq_getElem?_getD, List.getElem?_eq_getElem (by rw [HN.out]; exact hlt)]
        rfl
      rw [hdt] at hgl
      obtain ⟨l2, hg1, hg2⟩ := Option.bind_eq_some_iff.1 (show (gath1 l (ps.getD t zs)).bind (fun l' => gathM l' (ps.drop (t + 1))) = some l' from hgl)
      obtain ⟨go, pA, pn, pc, hPt⟩ := HPP.out t hlt
      obtain ⟨⟨pk, pz, pd, pb, pe⟩, hpp⟩ : ∃ p, ps.getD t zs = p := ⟨_, rfl⟩
      rw [hpp] at hg1 hPt
      obtain ⟨m, x, hgb, hx3, hx1, hx2, hx4, rfl⟩ := gath1_inv hg1
      simp only at hx1 hx2 hx4 hg2
      have hle := gathM_le _ _ _ hg2
      have HP := Aside0.mk (fun W' hW => (hPt W' hW).cd)
      have hPr := hPt wr HK.out
      obtain ⟨q, hmq⟩ : ∃ q, m.length = q := ⟨_, rfl⟩
      have HMQ := Aside0.mk hmq
      have HREST := Aside0.mk hg2
      have hq1 : q ≤ 1000000 := by have := hle.1; rw [List.length_append, List.length_singleton] at this; have := HL.out.1; omega
      have HQ1 := Aside0.mk hq1
      have HZ0 := Aside0.mk (show (x.f2 ++ pd).length ≤ 1000000 from by
        have h1 := hle.2 m.length (by rw [List.length_append, List.length_singleton]; omega)
        have h2 : ((m ++ [(⟨x.f0, x.f1, x.f2 ++ pd, pe⟩ : S46)]).getD m.length z46).f2 = x.f2 ++ pd := by rw [List.getD_eq_getElem?_getD]; simp
        rw [h2] at h1
        have h3 : m.length < l'.length := by have := hle.1; rw [List.length_append, List.length_singleton] at this; omega
        have h4 := HL.out.2 _ (List.getElem_mem h3)
        rw [List.getD_eq_getElem?_getD, List.getElem?_eq_getElem h3] at h1
        exact Nat.le_trans h1 h4)
      have HPN := Aside0.mk (show pn = pd.length from hPr.cd.1.symm)
      have HZ := Aside0.mk (show (x.f2.length + pn) * 1 ≤ 140737488355328 from by have h1 := HZ0.out; rw [List.length_append] at h1; have := HPN.out; omega)
      have HLX := Aside0.mk (show l.length ≤ m.length + 1 from by
        have : (gbase l ⟨pk, pz, pd, pb, pe⟩).length = m.length + 1 := by rw [hgb, List.length_append, List.length_singleton]
        unfold gbase at this
        split at this
        · rw [List.length_append, List.length_singleton] at this; omega
        · omega)
      obtain ⟨rfl⟩ : Nonempty (Ap = some ⟨go, 0, none⟩) := ⟨hPr.hA⟩
      have hr0 := hPr.c0
      have hr1 := hPr.c1
      have hr2 := hPr.c2
      have hr3 := hPr.c3
      have hr4 := hPr.c4
      have ht0 : (0 : Int) ≤ (t : Int) := by omega
      have htn : (t : Int) < (n : Int) := by omega
      obtain ⟨bx, hbx⟩ : ∃ bx, wr.heap.size = bx := ⟨_, rfl⟩
      have HBXW := Aside0.mk (show (wr.alloc (.cells #[.string pk, .int .i64 pz, .slice pA pn pc, .bool pb, .bool pe] 53)).heap[bx]? = some (.cells #[.string pk, .int .i64 pz, .slice pA pn pc, .bool pb, .bool pe] 53 (0, 0)) from by subst hbx; exact heap_alloc_new wr _)
      have HGA := Aside0.mk (HGl.out.below (below_alloc (Below.refl _ _) (.cells #[.string pk, .int .i64 pz, .slice pA pn pc, .bool pb, .bool pe] 53)))
      have HKA := Aside0.mk (HK.out.then_ (Kept.of_below (below_alloc (Below.refl _ _) (.cells #[.string pk, .int .i64 pz, .slice pA pn pc, .bool pb, .bool pe] 53)) (fun _ => False)) (fun _ h => h.elim))
      have HBA := Aside0.mk (below_then HB.out (Nat.le_trans HBW.out HK.out.1) (below_alloc (Below.refl _ _) (.cells #[.string pk, .int .i64 pz, .slice pA pn pc, .bool pb, .bool pe] 53)))
      obtain ⟨Wa, hWa⟩ : ∃ Wa, wr.alloc (.cells #[.string pk, .int .i64 pz, .slice pA pn pc, .bool pb, .bool pe] 53) = Wa := ⟨_, rfl⟩
      rw [hWa] at HBXW HGA HKA HBA
      clear hg1 hg2 hgl hdt hpp hPt hPr hle hGl hmq
      cases pb with
      | true =>
        have hgb' : m = l ∧ x = ⟨pk, pz, [], false⟩ := by
          have h1 : l ++ [(⟨pk, pz, [], false⟩ : S46)] = m ++ [x] := hgb
          obtain ⟨a, b⟩ := List.append_inj' h1 rfl
          injection b with b
          exact ⟨a.symm, b.symm⟩
        obtain ⟨rfl, rfl⟩ := hgb'
        have HFRA := Aside0.mk (fun k (hk : Wa.heap.size ≤ k) => (show okN ok W k from .inr (Nat.le_trans HKA.out.1 hk)))
        have HBSA := Aside0.mk (Nat.le_trans HBW.out HKA.out.1)
        have HZA := Aside0.mk (show (fs.length + 1) * 56 ≤ 140737488355328 from by have h1 := HGA.out.len; have h2 := HMQ.out; omega)
        have hb0 := blk_cell HBXW.out 0
        have hb1 := blk_cell HBXW.out 1
        have hb2 := blk_cell HBXW.out 2
        have hb3 := blk_cell HBXW.out 3
        have hb4 := blk_cell HBXW.out 4
        have hfb0 := blk_frozen HBXW.out 0
        have hfb1 := blk_frozen HBXW.out 1
        have hfb2 := blk_frozen HBXW.out 2
        have hfb3 := blk_frozen HBXW.out 3
        have hfb4 := blk_frozen HBXW.out 4
        go_wp2_with (at_builtin; go_loud (refine Kd.R_append kq (w0 := W) B rfl (.tmp 17) (.tmp 23) 27 46 (.agg #[.string ⟨#[]⟩, .int .i64 0, .slice none 0 0, .bool false]) 56 rfl Try.underlying27 info46_ rfl (by decide) (by decide) u fs ⟨pk, pz, none, 0, 0, false⟩ [.string pk, .int .i64 pz, .slice none 0 0, .bool false] (okN ok W) (fun _ => False) rfl rfl (kq_mkM _ _ _ _) (fun _ h => h.elim) HFRA.out HGA.out.row HBA.out HBSA.out HZA.out ?_; intro v5 w5 hR5 hb5 hg5 hat5; have HGb := Aside0.mk (HGA.out.push (x := ⟨pk, pz, [], false⟩) hR5 hg5 rfl rfl rfl rfl rfl); have HBXb := Aside0.mk (blk_grown HBXW.out hg5 (Kd.R_ne HGA.out.row HBXW.out (by decide))); have HKb := Aside0.mk (HKA.out.then_ (kept_grown hg5 (S := okN ok W) (fun k e => HGA.out.row.1 k e)) (fun k h => h)); have HBb := Aside0.mk hb5; clear hR5 hb5 hg5 hat5 hb0 hb1 hb2 hb3 hb4 hfb0 hfb1 hfb2 hfb3 hfb4; have HLQ := Aside0.mk (show (m ++ [(⟨pk, pz, [], false⟩ : S46)]).length = q + 1 from by rw [List.length_append, List.length_singleton, HMQ.out]); have hq1 : q ≤ 1000000 := HQ1.out; obtain ⟨gq, cq, rfl, HGr⟩ := gc_form HGb.out HLQ.out; have HG7 := Aside0.mk HGr; clear HGb HGr; obtain ⟨fq, hfq⟩ : ∃ fq, (fs ++ [(⟨pk, pz, none, 0, 0, false⟩ : Sq)]).getD q zq = fq := ⟨_, rfl⟩; have h7 := gc_at HG7.out hfq HLQ.out; obtain ⟨e0, e1, e3⟩ := gc_eqs HG7.out hfq HLQ.out HMQ.out; obtain ⟨fk, fz, xA, xn, xc, fe⟩ := fq; simp only at e0 e1 e3 h7; obtain ⟨rfl, rfl, rfl⟩ := And.intro e0.symm (And.intro e1.symm e3.symm); have HFQ := Aside0.mk hfq; have HXD := Aside0.mk (show ((m ++ [(⟨pk, pz, [], false⟩ : S46)]).getD q z46).f2 = [] from gc_xd HMQ.out); have HBQ := Aside0.mk (show B ≤ gq from Kd.R_base HG7.out.row gq rfl); have hc0 := h7.1; have hc1 := h7.2.1; have hc2 := h7.2.2.1; have hc3 := h7.2.2.2.1; have hpi : ((q + 1 : Nat) : Int) - 1 = (q : Int) := Int.add_sub_cancel (q : Int) 1; have hq0 : (0 : Int) ≤ (q : Int) := Int.natCast_nonneg q; have hqb : (((q + 1 : Nat) : Int) == 0) = false := gc_ne0 q; have hb0 := blk_cell HBXb.out 0; have hb1 := blk_cell HBXb.out 1; have hb2 := blk_cell HBXb.out 2; have hb3 := blk_cell HBXb.out 3; have hb4 := blk_cell HBXb.out 4; have hfb0 := blk_frozen HBXb.out 0; have hfb1 := blk_frozen HBXb.out 1; have hfb2 := blk_frozen HBXb.out 2; have hfb3 := blk_frozen HBXb.out 3; have hfb4 := blk_frozen HBXb.out 4; clear h7 hfq))
        go_quiet (fail)
        all_goals go_wp2
        have HG8 := Aside0.mk (HG7.out.below (pw_below_drewN (Below.refl _ _) nq))
        have HBX8 := Aside0.mk (blk_drewN HBXb.out nq)
        have HK8 := Aside0.mk (HKb.out.then_ (Kept.of_below (pw_below_drewN (Below.refl _ _) nq) (fun _ => False)) (fun _ h => h.elim))
        have HB8 := Aside0.mk (pw_below_drewN HBb.out nq)
        obtain ⟨N8, hN8⟩ : ∃ N8, ([] ++ pd).length = N8 := ⟨_, rfl⟩
        have HN8 := Aside0.mk hN8
        clear hN8 HG7 HBXb HKb HBb hc0 hc1 hc2 hc3 hb0 hb1 hb2 hb3 hb4 hfb0 hfb1 hfb2 hfb3 hfb4
        generalize w5.drewN nq = W8 at HG8 HBX8 HK8 HB8 ⊢
        refine start_ (n := 11) (S := fun w' => w'.cell? ⟨gq, q * 4 + 2, none⟩ = some (.slice xA xn xc) ∧ w'.cell? ⟨bx, 2, none⟩ = some (.slice pA pn pc)) (ds := [10]) #[false, false, false, false, false, false, false, false, false, false, false] (by kernel_rfl) rfl rfl ⟨(gc_at HG8.out HFQ.out HLQ.out).2.2.1, blk_cell HBX8.out 2⟩ (fun hHeld => ?_)
        have HG9 := Aside0.mk (HG8.out.below (below_drew (Below.refl _ _)))
        have HBX9 := Aside0.mk (blk_drew HBX8.out)
        have HK9 := Aside0.mk (HK8.out.then_ (Kept.of_below (below_drew (Below.refl _ _)) (fun _ => False)) (fun _ h => h.elim))
        have HB9 := Aside0.mk (below_drew HB8.out)
        clear HG8 HBX8 HK8 HB8
        generalize W8.drew = W9 at hHeld HG9 HBX9 HK9 HB9 ⊢
        have HXR := Aside0.mk (show Kd.R (Kd.int .u8) 5 W9 B (okN ok W) (.slice xA xn xc) [] from gc_row HG9.out HFQ.out HXD.out HLQ.out)
        have HPD := Aside0.mk (HP.out W9 HK9.out)
        have HFR := Aside0.mk (fun k (hk : W9.heap.size ≤ k) => (show okN ok W k from .inr (Nat.le_trans HK9.out.1 hk)))
        have HBS := Aside0.mk (Nat.le_trans HBW.out HK9.out.1)
        refine pure_ (i := 0) (N := some 73) (v := ?_) (a' := ?_) #[true, false, false, false, false, false, false, false, false, false, false] rfl rfl (by kernel_rfl) (fun _ _ _ h => h) (Or.inl ⟨by rfl, ?_⟩) ?_ ?_
        rotate_left
        · intro w'
          go_simp
          with_reducible rfl
        rotate_left
        · simp only [Act.put, List.setIfInBounds_toArray, List.set_cons_zero, List.set_cons_succ, i64_w, i32_w]
          rfl
        refine pure_ (i := 1) (N := some 74) (v := ?_) (a' := ?_) #[true, true, false, false, false, false, false, false, false, false, false] rfl rfl (by kernel_rfl) (fun _ _ _ h => h) (Or.inl ⟨by rfl, ?_⟩) ?_ ?_
        rotate_left
        · intro w'
          go_simp
          with_reducible rfl
        rotate_left
        · simp only [Act.put, List.setIfInBounds_toArray, List.set_cons_zero, List.set_cons_succ, i64_w, i32_w]
          rfl
        refine pure_ (i := 2) (N := some 75) (v := ?_) (a' := ?_) #[true, true, true, false, false, false, false, false, false, false, false] rfl rfl (by kernel_rfl) (fun _ _ _ h => h) (Or.inl ⟨by rfl, ?_⟩) ?_ ?_
        rotate_left
        · intro w'
          go_simp
          with_reducible rfl
        rotate_left
        · simp only [Act.put, List.setIfInBounds_toArray, List.set_cons_zero, List.set_cons_succ, i64_w, i32_w]
          rfl
        refine pure_ (i := 3) (N := some 76) (v := ?_) (a' := ?_) #[true, true, true, true, false, false, false, false, false, false, false] rfl rfl (by kernel_rfl) (fun _ _ _ h => h) (Or.inl ⟨by rfl, ?_⟩) ?_ ?_
        rotate_left
        · intro w'
          go_simp
          with_reducible rfl
        rotate_left
        · simp only [Act.put, List.setIfInBounds_toArray, List.set_cons_zero, List.set_cons_succ, i64_w, i32_w]
          rfl
        refine pure_ (i := 5) (N := some 78) (v := ?_) (a' := ?_) #[true, true, true, true, false, true, false, false, false, false, false] rfl rfl (by kernel_rfl) (fun _ _ _ h => h) (Or.inl ⟨by rfl, ?_⟩) ?_ ?_
        rotate_left
        · intro w'
          go_simp
          with_reducible rfl
        rotate_left
        · simp only [Act.put, List.setIfInBounds_toArray, List.set_cons_zero, List.set_cons_succ, i64_w, i32_w]
          rfl
        refine take_ (i := 4) (N := some 77) (v := ?_) (a' := ?_) #[true, true, true, true, true, true, false, false, false, false, false] rfl rfl (by kernel_rfl) (fun _ _ _ h => h) (Or.inl ⟨by rfl, ?_⟩) hHeld ?_ ?_
        rotate_left
        · rintro w' ⟨s0, s1⟩
          go_simp
          with_reducible rfl
        rotate_left
        · simp only [Act.put, List.setIfInBounds_toArray, List.set_cons_zero, List.set_cons_succ, i64_w, i32_w]
          rfl
        refine take_ (i := 6) (N := some 79) (v := ?_) (a' := ?_) #[true, true, true, true, true, true, true, false, false, false, false] rfl rfl (by kernel_rfl) (fun _ _ _ h => h) (Or.inl ⟨by rfl, ?_⟩) hHeld ?_ ?_
        rotate_left
        · rintro w' ⟨s0, s1⟩
          go_simp
          with_reducible rfl
        rotate_left
        · simp only [Act.put, List.setIfInBounds_toArray, List.set_cons_zero, List.set_cons_succ, i64_w, i32_w]
          rfl
        refine one_ (i := 7) (N := some 80) #[true, true, true, true, true, true, true, true, false, false, false] rfl rfl (by kernel_rfl) (by decide) (fun K hK => ?_)
        refine Kd.R_append_rows_step (Kd.int .u8) (w0 := W9) B (by rfl) (.tmp 77) (.tmp 79) 26 5 (.int .u8 0) 1 rfl Try.underlying26 info5 rfl (by decide) (by decide) (.slice xA xn xc) [] pd pA pn pc (okN ok W) (fun _ => False) (by rfl) (by rfl) HXR.out HPD.out (fun _ _ h => h) (fun _ h => h.elim) HFR.out (Below.refl _ _) HBS.out HZ.out ?_
        intro v8 w8 hR8 hb8 hg8 hat8
        obtain ⟨A8, c8, rfl, hR8⟩ := row_form HN8.out hR8
        have HS8 := Aside0.mk (gc_after (A8 := A8) (xn := N8) (c8 := c8) HG9.out HBX9.out HFQ.out HLQ.out HXR.out hg8)
        have hf8 := HS8.out.2.2.1
        have HB10x := Aside0.mk HS8.out.2.2.2
        have HG10 := Aside0.mk (gc_data HG9.out HFQ.out HXD.out HLQ.out hR8 hg8 hat8)
        have HK10 := Aside0.mk (gc_kept HK9.out HG9.out HXR.out hg8 (.slice A8 N8 c8) q)
        have HB10 := Aside0.mk (below_st HB9.out hb8 HBQ.out (.slice A8 N8 c8) (q * 4 + 2))
        clear hR8 hb8 hg8 hat8
        refine hK.out _ _ ⟨HS8.out.1, HS8.out.2.1⟩ (fun hHeld => ?_)
        clear hK K
        refine norm_ (a' := ?_) ?_ ?_
        rotate_left
        · show Act.put _ (some 80) _ = _
          simp only [Act.put, List.setIfInBounds_toArray, List.set_cons_zero, List.set_cons_succ, i64_w, i32_w]
          rfl
        refine pure_ (i := 8) (N := some 81) (v := ?_) (a' := ?_) #[true, true, true, true, true, true, true, true, true, false, false] rfl rfl (by kernel_rfl) (fun _ _ _ h => h) (Or.inl ⟨by rfl, ?_⟩) ?_ ?_
        rotate_left
        · intro w'
          go_simp
          with_reducible rfl
        rotate_left
        · simp only [Act.put, List.setIfInBounds_toArray, List.set_cons_zero, List.set_cons_succ, i64_w, i32_w]
          rfl
        refine pure_ (i := 9) (N := some 82) (v := ?_) (a' := ?_) #[true, true, true, true, true, true, true, true, true, true, false] rfl rfl (by kernel_rfl) (fun _ _ _ h => h) (Or.inl ⟨by rfl, ?_⟩) ?_ ?_
        rotate_left
        · intro w'
          go_simp
          with_reducible rfl
        rotate_left
        · simp only [Act.put, List.setIfInBounds_toArray, List.set_cons_zero, List.set_cons_succ, i64_w, i32_w]
          rfl
        refine last_ (i := 10) (N := none) #[true, true, true, true, true, true, true, true, true, true, true] rfl rfl (by kernel_rfl) (by decide) (fun K hK => ?_)
        refine skip_ (w1 := ?_) (by rfl) rfl ?_ ?_
        rotate_left
        · go_simp
          rfl
        refine hK.out _ _ ?_
        clear hK K
        refine done_ (by kernel_rfl) ?_
        clear hf8 hHeld
        generalize w8.setCell ⟨gq, q * 4 + 2, none⟩ (.slice A8 N8 c8) = W10 at HG10 HK10 HB10 HB10x ⊢
        have hb4 := blk_cell HB10x.out 4
        have h10 := pq_at HG10.out.row q (by omega)
        have hc3 := h10.1.2.2.2
        have hf3 := h10.2 3
        clear h10
        go_wp2
        have HGZ := Aside0.mk (gc_end HG10.out HMQ.out pe)
        have HKZ := Aside0.mk (HK10.out.then_ (kept_set (Kept.refl W10 (fun k => okN ok W k)) (p := ⟨gq, q * 4 + 3, none⟩) (HG10.out.row.1 gq rfl) (.bool pe)) (fun k hk => hk))
        have HBZ := Aside0.mk (HB10.out.setCell (p := ⟨gq, q * 4 + 3, none⟩) HBQ.out (.bool pe))
        go_roundw
        case rel => exact ⟨t + 1, _, rfl, by go_num, by omega, ⟨⟨_, _, HGZ.out, HREST.out⟩⟩, ⟨HKZ.out⟩, ⟨HBZ.out⟩⟩
        case measure => simp [intOf]; omega
      | false =>
        have hgb' : l = m ++ [x] := hgb
        subst hgb'
        cases pe with
        | true =>
          have HGb := HGA
          have HBXb := HBXW
          have HKb := HKA
          have HBb := HBA
          clear HGA HBXW HKA HBA
          clear hx4
          have HLQ := Aside0.mk (show (m ++ [x]).length = q + 1 from by rw [List.length_append, List.length_singleton, HMQ.out])
          have hq1 : q ≤ 1000000 := HQ1.out
          obtain ⟨gq, cq, rfl, HGr⟩ := gc_form HGb.out HLQ.out
          have HG7 := Aside0.mk HGr
          clear HGb HGr
          obtain ⟨fq, hfq⟩ : ∃ fq, fs.getD q zq = fq := ⟨_, rfl⟩
          have h7 := gc_at HG7.out hfq HLQ.out
          obtain ⟨e0, e1, e3⟩ := gc_eqs HG7.out hfq HLQ.out HMQ.out
          obtain ⟨fk, fz, xA, xn, xc, fe⟩ := fq
          obtain ⟨xk, xz, xd, xe⟩ := x
          have HX12 := And.intro hx1.symm (And.intro hx2.symm hx3.symm)
          simp only at e0 e1 e3 h7 HX12
          obtain ⟨rfl, rfl, rfl⟩ := HX12
          obtain ⟨rfl, rfl, rfl⟩ := And.intro e0.symm (And.intro e1.symm e3.symm)
          have HFQ := Aside0.mk hfq
          have HXD := Aside0.mk (show ((m ++ [(⟨pk, pz, xd, false⟩ : S46)]).getD q z46).f2 = xd from gc_xd HMQ.out)
          have HBQ := Aside0.mk (show B ≤ gq from Kd.R_base HG7.out.row gq rfl)
          have hc0 := h7.1
          have hc1 := h7.2.1
          have hc2 := h7.2.2.1
          have hc3 := h7.2.2.2.1
          have hpi : ((q + 1 : Nat) : Int) - 1 = (q : Int) := Int.add_sub_cancel (q : Int) 1
          have hq0 : (0 : Int) ≤ (q : Int) := Int.natCast_nonneg q
          have hqb : (((q + 1 : Nat) : Int) == 0) = false := gc_ne0 q
          have hb0 := blk_cell HBXb.out 0
          have hb1 := blk_cell HBXb.out 1
          have hb2 := blk_cell HBXb.out 2
          have hb3 := blk_cell HBXb.out 3
          have hb4 := blk_cell HBXb.out 4
          have hfb0 := blk_frozen HBXb.out 0
          have hfb1 := blk_frozen HBXb.out 1
          have hfb2 := blk_frozen HBXb.out 2
          have hfb3 := blk_frozen HBXb.out 3
          have hfb4 := blk_frozen HBXb.out 4
          clear h7 hfq
          go_wp2
          go_quiet (fail)
          all_goals go_wp2
          have HG8 := Aside0.mk (HG7.out.below (pw_below_drewN (Below.refl _ _) nq))
          have HBX8 := Aside0.mk (blk_drewN HBXb.out nq)
          have HK8 := Aside0.mk (HKb.out.then_ (Kept.of_below (pw_below_drewN (Below.refl _ _) nq) (fun _ => False)) (fun _ h => h.elim))
          have HB8 := Aside0.mk (pw_below_drewN HBb.out nq)
          obtain ⟨N8, hN8⟩ : ∃ N8, (xd ++ pd).length = N8 := ⟨_, rfl⟩
          have HN8 := Aside0.mk hN8
          clear hN8 HG7 HBXb HKb HBb hc0 hc1 hc2 hc3 hb0 hb1 hb2 hb3 hb4 hfb0 hfb1 hfb2 hfb3 hfb4
          generalize Wa.drewN nq = W8 at HG8 HBX8 HK8 HB8 ⊢
          refine start_ (n := 11) (S := fun w' => w'.cell? ⟨gq, q * 4 + 2, none⟩ = some (.slice xA xn xc) ∧ w'.cell? ⟨bx, 2, none⟩ = some (.slice pA pn pc)) (ds := [10]) #[false, false, false, false, false, false, false, false, false, false, false] (by kernel_rfl) rfl rfl ⟨(gc_at HG8.out HFQ.out HLQ.out).2.2.1, blk_cell HBX8.out 2⟩ (fun hHeld => ?_)
          have HG9 := Aside0.mk (HG8.out.below (below_drew (Below.refl _ _)))
          have HBX9 := Aside0.mk (blk_drew HBX8.out)
          have HK9 := Aside0.mk (HK8.out.then_ (Kept.of_below (below_drew (Below.refl _ _)) (fun _ => False)) (fun _ h => h.elim))
          have HB9 := Aside0.mk (below_drew HB8.out)
          clear HG8 HBX8 HK8 HB8
          generalize W8.drew = W9 at hHeld HG9 HBX9 HK9 HB9 ⊢
          have HXR := Aside0.mk (show Kd.R (Kd.int .u8) 5 W9 B (okN ok W) (.slice xA xn xc) xd from gc_row HG9.out HFQ.out HXD.out HLQ.out)
          have HPD := Aside0.mk (HP.out W9 HK9.out)
          have HFR := Aside0.mk (fun k (hk : W9.heap.size ≤ k) => (show okN ok W k from .inr (Nat.le_trans HK9.out.1 hk)))
          have HBS := Aside0.mk (Nat.le_trans HBW.out HK9.out.1)
          refine pure_ (i := 0) (N := some 73) (v := ?_) (a' := ?_) #[true, false, false, false, false, false, false, false, false, false, false] rfl rfl (by kernel_rfl) (fun _ _ _ h => h) (Or.inl ⟨by rfl, ?_⟩) ?_ ?_
          rotate_left
          · intro w'
            go_simp
            with_reducible rfl
          rotate_left
          · simp only [Act.put, List.setIfInBounds_toArray, List.set_cons_zero, List.set_cons_succ, i64_w, i32_w]
            rfl
          refine pure_ (i := 1) (N := some 74) (v := ?_) (a' := ?_) #[true, true, false, false, false, false, false, false, false, false, false] rfl rfl (by kernel_rfl) (fun _ _ _ h => h) (Or.inl ⟨by rfl, ?_⟩) ?_ ?_
          rotate_left
          · intro w'
            go_simp
            with_reducible rfl
          rotate_left
          · simp only [Act.put, List.setIfInBounds_toArray, List.set_cons_zero, List.set_cons_succ, i64_w, i32_w]
            rfl
          refine pure_ (i := 2) (N := some 75) (v := ?_) (a' := ?_) #[true, true, true, false, false, false, false, false, false, false, false] rfl rfl (by kernel_rfl) (fun _ _ _ h => h) (Or.inl ⟨by rfl, ?_⟩) ?_ ?_
          rotate_left
          · intro w'
            go_simp
            with_reducible rfl
          rotate_left
          · simp only [Act.put, List.setIfInBounds_toArray, List.set_cons_zero, List.set_cons_succ, i64_w, i32_w]
            rfl
          refine pure_ (i := 3) (N := some 76) (v := ?_) (a' := ?_) #[true, true, true, true, false, false, false, false, false, false, false] rfl rfl (by kernel_rfl) (fun _ _ _ h => h) (Or.inl ⟨by rfl, ?_⟩) ?_ ?_
          rotate_left
          · intro w'
            go_simp
            with_reducible rfl
          rotate_left
          · simp only [Act.put, List.setIfInBounds_toArray, List.set_cons_zero, List.set_cons_succ, i64_w, i32_w]
            rfl
          refine pure_ (i := 5) (N := some 78) (v := ?_) (a' := ?_) #[true, true, true, true, false, true, false, false, false, false, false] rfl rfl (by kernel_rfl) (fun _ _ _ h => h) (Or.inl ⟨by rfl, ?_⟩) ?_ ?_
          rotate_left
          · intro w'
            go_simp
            with_reducible rfl
          rotate_left
          · simp only [Act.put, List.setIfInBounds_toArray, List.set_cons_zero, List.set_cons_succ, i64_w, i32_w]
            rfl
          refine take_ (i := 4) (N := some 77) (v := ?_) (a' := ?_) #[true, true, true, true, true, true, false, false, false, false, false] rfl rfl (by kernel_rfl) (fun _ _ _ h => h) (Or.inl ⟨by rfl, ?_⟩) hHeld ?_ ?_
          rotate_left
          · rintro w' ⟨s0, s1⟩
            go_simp
            with_reducible rfl
          rotate_left
          · simp only [Act.put, List.setIfInBounds_toArray, List.set_cons_zero, List.set_cons_succ, i64_w, i32_w]
            rfl
          refine take_ (i := 6) (N := some 79) (v := ?_) (a' := ?_) #[true, true, true, true, true, true, true, false, false, false, false] rfl rfl (by kernel_rfl) (fun _ _ _ h => h) (Or.inl ⟨by rfl, ?_⟩) hHeld ?_ ?_
          rotate_left
          · rintro w' ⟨s0, s1⟩
            go_simp
            with_reducible rfl
          rotate_left
          · simp only [Act.put, List.setIfInBounds_toArray, List.set_cons_zero, List.set_cons_succ, i64_w, i32_w]
            rfl
          refine one_ (i := 7) (N := some 80) #[true, true, true, true, true, true, true, true, false, false, false] rfl rfl (by kernel_rfl) (by decide) (fun K hK => ?_)
          refine Kd.R_append_rows_step (Kd.int .u8) (w0 := W9) B (by rfl) (.tmp 77) (.tmp 79) 26 5 (.int .u8 0) 1 rfl Try.underlying26 info5 rfl (by decide) (by decide) (.slice xA xn xc) xd pd pA pn pc (okN ok W) (fun _ => False) (by rfl) (by rfl) HXR.out HPD.out (fun _ _ h => h) (fun _ h => h.elim) HFR.out (Below.refl _ _) HBS.out HZ.out ?_
          intro v8 w8 hR8 hb8 hg8 hat8
          obtain ⟨A8, c8, rfl, hR8⟩ := row_form HN8.out hR8
          have HS8 := Aside0.mk (gc_after (A8 := A8) (xn := N8) (c8 := c8) HG9.out HBX9.out HFQ.out HLQ.out HXR.out hg8)
          have hf8 := HS8.out.2.2.1
          have HB10x := Aside0.mk HS8.out.2.2.2
          have HG10 := Aside0.mk (gc_data HG9.out HFQ.out HXD.out HLQ.out hR8 hg8 hat8)
          have HK10 := Aside0.mk (gc_kept HK9.out HG9.out HXR.out hg8 (.slice A8 N8 c8) q)
          have HB10 := Aside0.mk (below_st HB9.out hb8 HBQ.out (.slice A8 N8 c8) (q * 4 + 2))
          clear hR8 hb8 hg8 hat8
          refine hK.out _ _ ⟨HS8.out.1, HS8.out.2.1⟩ (fun hHeld => ?_)
          clear hK K
          refine norm_ (a' := ?_) ?_ ?_
          rotate_left
          · show Act.put _ (some 80) _ = _
            simp only [Act.put, List.setIfInBounds_toArray, List.set_cons_zero, List.set_cons_succ, i64_w, i32_w]
            rfl
          refine pure_ (i := 8) (N := some 81) (v := ?_) (a' := ?_) #[true, true, true, true, true, true, true, true, true, false, false] rfl rfl (by kernel_rfl) (fun _ _ _ h => h) (Or.inl ⟨by rfl, ?_⟩) ?_ ?_
          rotate_left
          · intro w'
            go_simp
            with_reducible rfl
          rotate_left
          · simp only [Act.put, List.setIfInBounds_toArray, List.set_cons_zero, List.set_cons_succ, i64_w, i32_w]
            rfl
          refine pure_ (i := 9) (N := some 82) (v := ?_) (a' := ?_) #[true, true, true, true, true, true, true, true, true, true, false] rfl rfl (by kernel_rfl) (fun _ _ _ h => h) (Or.inl ⟨by rfl, ?_⟩) ?_ ?_
          rotate_left
          · intro w'
            go_simp
            with_reducible rfl
          rotate_left
          · simp only [Act.put, List.setIfInBounds_toArray, List.set_cons_zero, List.set_cons_succ, i64_w, i32_w]
            rfl
          refine last_ (i := 10) (N := none) #[true, true, true, true, true, true, true, true, true, true, true] rfl rfl (by kernel_rfl) (by decide) (fun K hK => ?_)
          refine skip_ (w1 := ?_) (by rfl) rfl ?_ ?_
          rotate_left
          · go_simp
            rfl
          refine hK.out _ _ ?_
          clear hK K
          refine done_ (by kernel_rfl) ?_
          clear hf8 hHeld
          generalize w8.setCell ⟨gq, q * 4 + 2, none⟩ (.slice A8 N8 c8) = W10 at HG10 HK10 HB10 HB10x ⊢
          have hb4 := blk_cell HB10x.out 4
          have h10 := pq_at HG10.out.row q (by omega)
          have hc3 := h10.1.2.2.2
          have hf3 := h10.2 3
          clear h10
          go_wp2
          have HGZ := Aside0.mk (gc_end HG10.out HMQ.out true)
          have HKZ := Aside0.mk (HK10.out.then_ (kept_set (Kept.refl W10 (fun k => okN ok W k)) (p := ⟨gq, q * 4 + 3, none⟩) (HG10.out.row.1 gq rfl) (.bool true)) (fun k hk => hk))
          have HBZ := Aside0.mk (HB10.out.setCell (p := ⟨gq, q * 4 + 3, none⟩) HBQ.out (.bool true))
          go_roundw
          case rel => exact ⟨t + 1, _, rfl, by go_num, by omega, ⟨⟨_, _, HGZ.out, HREST.out⟩⟩, ⟨HKZ.out⟩, ⟨HBZ.out⟩⟩
          case measure => simp [intOf]; omega
        | false =>
          have HGb := HGA
          have HBXb := HBXW
          have HKb := HKA
          have HBb := HBA
          clear HGA HBXW HKA HBA
          obtain ⟨pn, rfl⟩ : ∃ pn1, pn = pn1 + 1 := gc_pn1 HPN.out hx4
          have hpn0 : (((pn + 1 : Nat) : Int) == 0) = false := gc_ne0 pn
          clear hx4
          have HLQ := Aside0.mk (show (m ++ [x]).length = q + 1 from by rw [List.length_append, List.length_singleton, HMQ.out])
          have hq1 : q ≤ 1000000 := HQ1.out
          obtain ⟨gq, cq, rfl, HGr⟩ := gc_form HGb.out HLQ.out
          have HG7 := Aside0.mk HGr
          clear HGb HGr
          obtain ⟨fq, hfq⟩ : ∃ fq, fs.getD q zq = fq := ⟨_, rfl⟩
          have h7 := gc_at HG7.out hfq HLQ.out
          obtain ⟨e0, e1, e3⟩ := gc_eqs HG7.out hfq HLQ.out HMQ.out
          obtain ⟨fk, fz, xA, xn, xc, fe⟩ := fq
          obtain ⟨xk, xz, xd, xe⟩ := x
          have HX12 := And.intro hx1.symm (And.intro hx2.symm hx3.symm)
          simp only at e0 e1 e3 h7 HX12
          obtain ⟨rfl, rfl, rfl⟩ := HX12
          obtain ⟨rfl, rfl, rfl⟩ := And.intro e0.symm (And.intro e1.symm e3.symm)
          have HFQ := Aside0.mk hfq
          have HXD := Aside0.mk (show ((m ++ [(⟨pk, pz, xd, false⟩ : S46)]).getD q z46).f2 = xd from gc_xd HMQ.out)
          have HBQ := Aside0.mk (show B ≤ gq from Kd.R_base HG7.out.row gq rfl)
          have hc0 := h7.1
          have hc1 := h7.2.1
          have hc2 := h7.2.2.1
          have hc3 := h7.2.2.2.1
          have hpi : ((q + 1 : Nat) : Int) - 1 = (q : Int) := Int.add_sub_cancel (q : Int) 1
          have hq0 : (0 : Int) ≤ (q : Int) := Int.natCast_nonneg q
          have hqb : (((q + 1 : Nat) : Int) == 0) = false := gc_ne0 q
          have hb0 := blk_cell HBXb.out 0
          have hb1 := blk_cell HBXb.out 1
          have hb2 := blk_cell HBXb.out 2
          have hb3 := blk_cell HBXb.out 3
          have hb4 := blk_cell HBXb.out 4
          have hfb0 := blk_frozen HBXb.out 0
          have hfb1 := blk_frozen HBXb.out 1
          have hfb2 := blk_frozen HBXb.out 2
          have hfb3 := blk_frozen HBXb.out 3
          have hfb4 := blk_frozen HBXb.out 4
          clear h7 hfq
          go_wp2
          rw [set_same HBXb.out (.bool false) rfl, set_same HBXb.out (.bool false) rfl]
          refine start_ (n := 38) (S := fun w' => w'.cell? ⟨gq, q * 4, none⟩ = some (.string pk) ∧ w'.cell? ⟨gq, q * 4 + 1, none⟩ = some (.int .i64 pz) ∧ w'.cell? ⟨gq, q * 4 + 3, none⟩ = some (.bool false) ∧ w'.cell? ⟨bx, 0, none⟩ = some (.string pk) ∧ w'.cell? ⟨bx, 1, none⟩ = some (.int .i64 pz) ∧ w'.cell? ⟨bx, 2, none⟩ = some (.slice pA (pn + 1) pc) ∧ w'.cell? ⟨bx, 3, none⟩ = some (.bool false) ∧ w'.cell? ⟨bx, 4, none⟩ = some (.bool false)) (ds := []) #[false, false, false, false, false, false, false, false, false, false, false, false, false, false, false, false, false, false, false, false, false, false, false, false, false, false, false, false, false, false, false, false, false, false, false, false, false, false] (by kernel_rfl) rfl rfl ⟨hc0, hc1, hc3, hb0, hb1, hb2, hb3, hb4⟩ (fun hHeld => ?_)
          refine pure_ (i := 0) (N := some 34) (v := ?_) (a' := ?_) #[true, false, false, false, false, false, false, false, false, false, false, false, false, false, false, false, false, false, false, false, false, false, false, false, false, false, false, false, false, false, false, false, false, false, false, false, false, false] rfl rfl (by kernel_rfl) (fun _ _ _ h => h) (Or.inl ⟨by rfl, ?_⟩) ?_ ?_
          rotate_left
          · intro w'
            go_simp
            with_reducible rfl
          rotate_left
          · simp only [Act.put, List.setIfInBounds_toArray, List.set_cons_zero, List.set_cons_succ, i64_w, i32_w]
            rfl
          refine pure_ (i := 1) (N := some 35) (v := ?_) (a' := ?_) #[true, true, false, false, false, false, false, false, false, false, false, false, false, false, false, false, false, false, false, false, false, false, false, false, false, false, false, false, false, false, false, false, false, false, false, false, false, false] rfl rfl (by kernel_rfl) (fun _ _ _ h => h) (Or.inl ⟨by rfl, ?_⟩) ?_ ?_
          rotate_left
          · intro w'
            go_simp
            with_reducible rfl
          rotate_left
          · simp only [Act.put, List.setIfInBounds_toArray, List.set_cons_zero, List.set_cons_succ, i64_w, i32_w]
            rfl
          refine pure_ (i := 2) (N := some 36) (v := ?_) (a' := ?_) #[true, true, true, false, false, false, false, false, false, false, false, false, false, false, false, false, false, false, false, false, false, false, false, false, false, false, false, false, false, false, false, false, false, false, false, false, false, false] rfl rfl (by kernel_rfl) (fun _ _ _ h => h) (Or.inl ⟨by rfl, ?_⟩) ?_ ?_
          rotate_left
          · intro w'
            go_simp
            with_reducible rfl
          rotate_left
          · simp only [Act.put, List.setIfInBounds_toArray, List.set_cons_zero, List.set_cons_succ, i64_w, i32_w]
            rfl
          refine take_ (i := 3) (N := some 37) (v := ?_) (a' := ?_) #[true, true, true, true, false, false, false, false, false, false, false, false, false, false, false, false, false, false, false, false, false, false, false, false, false, false, false, false, false, false, false, false, false, false, false, false, false, false] rfl rfl (by kernel_rfl) (fun _ _ _ h => h) (Or.inl ⟨by rfl, ?_⟩) hHeld ?_ ?_
          rotate_left
          · rintro w' ⟨s0, s1, s2, s3, s4, s5, s6, s7⟩
            go_simp
            with_reducible rfl
          rotate_left
          · simp only [Act.put, List.setIfInBounds_toArray, List.set_cons_zero, List.set_cons_succ, i64_w, i32_w]
            rfl
          refine pure_ (i := 4) (N := some 38) (v := ?_) (a' := ?_) #[true, true, true, true, true, false, false, false, false, false, false, false, false, false, false, false, false, false, false, false, false, false, false, false, false, false, false, false, false, false, false, false, false, false, false, false, false, false] rfl rfl (by kernel_rfl) (fun _ _ _ h => h) (Or.inl ⟨by rfl, ?_⟩) ?_ ?_
          rotate_left
          · intro w'
            go_simp
            with_reducible rfl
          rotate_left
          · simp only [Act.put, List.setIfInBounds_toArray, List.set_cons_zero, List.set_cons_succ, i64_w, i32_w]
            rfl
          refine pure_ (i := 5) (N := some 39) (v := ?_) (a' := ?_) #[true, true, true, true, true, true, false, false, false, false, false, false, false, false, false, false, false, false, false, false, false, false, false, false, false, false, false, false, false, false, false, false, false, false, false, false, false, false] rfl rfl (by kernel_rfl) (fun _ _ _ h => h) (Or.inl ⟨by rfl, ?_⟩) ?_ ?_
          rotate_left
          · intro w'
            go_simp
            with_reducible rfl
          rotate_left
          · simp only [Act.put, List.setIfInBounds_toArray, List.set_cons_zero, List.set_cons_succ, i64_w, i32_w]
            rfl
          refine pure_ (i := 6) (N := some 40) (v := ?_) (a' := ?_) #[true, true, true, true, true, true, true, false, false, false, false, false, false, false, false, false, false, false, false, false, false, false, false, false, false, false, false, false, false, false, false, false, false, false, false, false, false, false] rfl rfl (by kernel_rfl) (fun _ _ _ h => h) (Or.inl ⟨by rfl, ?_⟩) ?_ ?_
          rotate_left
          · intro w'
            go_simp
            with_reducible rfl
          rotate_left
          · simp only [Act.put, List.setIfInBounds_toArray, List.set_cons_zero, List.set_cons_succ, i64_w, i32_w]
            rfl
          refine pure_ (i := 7) (N := some 41) (v := ?_) (a' := ?_) #[true, true, true, true, true, true, true, true, false, false, false, false, false, false, false, false, false, false, false, false, false, false, false, false, false, false, false, false, false, false, false, false, false, false, false, false, false, false] rfl rfl (by kernel_rfl) (fun _ _ _ h => h) (Or.inl ⟨by rfl, ?_⟩) ?_ ?_
          rotate_left
          · intro w'
            go_simp
            with_reducible rfl
          rotate_left
          · simp only [Act.put, List.setIfInBounds_toArray, List.set_cons_zero, List.set_cons_succ, i64_w, i32_w]
            rfl
          refine pure_ (i := 9) (N := some 43) (v := ?_) (a' := ?_) #[true, true, true, true, true, true, true, true, false, true, false, false, false, false, false, false, false, false, false, false, false, false, false, false, false, false, false, false, false, false, false, false, false, false, false, false, false, false] rfl rfl (by kernel_rfl) (fun _ _ _ h => h) (Or.inl ⟨by rfl, ?_⟩) ?_ ?_
          rotate_left
          · intro w'
            go_simp
            with_reducible rfl
          rotate_left
          · simp only [Act.put, List.setIfInBounds_toArray, List.set_cons_zero, List.set_cons_succ, i64_w, i32_w]
            rfl
          refine take_ (i := 8) (N := some 42) (v := ?_) (a' := ?_) #[true, true, true, true, true, true, true, true, true, true, false, false, false, false, false, false, false, false, false, false, false, false, false, false, false, false, false, false, false, false, false, false, false, false, false, false, false, false] rfl rfl (by kernel_rfl) (fun _ _ _ h => h) (Or.inl ⟨by rfl, ?_⟩) hHeld ?_ ?_
          rotate_left
          · rintro w' ⟨s0, s1, s2, s3, s4, s5, s6, s7⟩
            go_simp
            with_reducible rfl
          rotate_left
          · simp only [Act.put, List.setIfInBounds_toArray, List.set_cons_zero, List.set_cons_succ, i64_w, i32_w]
            rfl
          refine take_ (i := 10) (N := some 44) (v := ?_) (a' := ?_) #[true, true, true, true, true, true, true, true, true, true, true, false, false, false, false, false, false, false, false, false, false, false, false, false, false, false, false, false, false, false, false, false, false, false, false, false, false, false] rfl rfl (by kernel_rfl) (fun _ _ _ h => h) (Or.inl ⟨by rfl, ?_⟩) hHeld ?_ ?_
          rotate_left
          · rintro w' ⟨s0, s1, s2, s3, s4, s5, s6, s7⟩
            go_simp
            with_reducible rfl
          rotate_left
          · simp only [Act.put, List.setIfInBounds_toArray, List.set_cons_zero, List.set_cons_succ, i64_w, i32_w]
            rfl
          refine pure_ (i := 11) (N := some 45) (v := ?_) (a' := ?_) #[true, true, true, true, true, true, true, true, true, true, true, true, false, false, false, false, false, false, false, false, false, false, false, false, false, false, false, false, false, false, false, false, false, false, false, false, false, false] rfl rfl (by kernel_rfl) (fun _ _ _ h => h) (Or.inl ⟨by rfl, ?_⟩) ?_ ?_
          rotate_left
          · intro w'
            go_simp
            with_reducible rfl
          rotate_left
          · simp only [Act.put, List.setIfInBounds_toArray, List.set_cons_zero, List.set_cons_succ, i64_w, i32_w]
            rfl
          refine pure_ (i := 12) (N := some 46) (v := ?_) (a' := ?_) #[true, true, true, true, true, true, true, true, true, true, true, true, true, false, false, false, false, false, false, false, false, false, false, false, false, false, false, false, false, false, false, false, false, false, false, false, false, false] rfl rfl (by kernel_rfl) (fun _ _ _ h => h) (Or.inl ⟨by rfl, ?_⟩) ?_ ?_
          rotate_left
          · intro w'
            go_simp
            with_reducible rfl
          rotate_left
          · simp only [Act.put, List.setIfInBounds_toArray, List.set_cons_zero, List.set_cons_succ, i64_w, i32_w]
            rfl
          refine pure_ (i := 13) (N := some 47) (v := ?_) (a' := ?_) #[true, true, true, true, true, true, true, true, true, true, true, true, true, true, false, false, false, false, false, false, false, false, false, false, false, false, false, false, false, false, false, false, false, false, false, false, false, false] rfl rfl (by kernel_rfl) (fun _ _ _ h => h) (Or.inl ⟨by rfl, ?_⟩) ?_ ?_
          rotate_left
          · intro w'
            go_simp
            with_reducible rfl
          rotate_left
          · simp only [Act.put, List.setIfInBounds_toArray, List.set_cons_zero, List.set_cons_succ, i64_w, i32_w]
            rfl
          refine pure_ (i := 14) (N := some 48) (v := ?_) (a' := ?_) #[true, true, true, true, true, true, true, true, true, true, true, true, true, true, true, false, false, false, false, false, false, false, false, false, false, false, false, false, false, false, false, false, false, false, false, false, false, false] rfl rfl (by kernel_rfl) (fun _ _ _ h => h) (Or.inl ⟨by rfl, ?_⟩) ?_ ?_
          rotate_left
          · intro w'
            go_simp
            with_reducible rfl
          rotate_left
          · simp only [Act.put, List.setIfInBounds_toArray, List.set_cons_zero, List.set_cons_succ, i64_w, i32_w]
            rfl
          refine pure_ (i := 15) (N := some 49) (v := ?_) (a' := ?_) #[true, true, true, true, true, true, true, true, true, true, true, true, true, true, true, true, false, false, false, false, false, false, false, false, false, false, false, false, false, false, false, false, false, false, false, false, false, false] rfl rfl (by kernel_rfl) (fun _ _ _ h => h) (Or.inl ⟨by rfl, ?_⟩) ?_ ?_
          rotate_left
          · intro w'
            go_simp
            with_reducible rfl
          rotate_left
          · simp only [Act.put, List.setIfInBounds_toArray, List.set_cons_zero, List.set_cons_succ, i64_w, i32_w]
            rfl
          refine pure_ (i := 16) (N := some 50) (v := ?_) (a' := ?_) #[true, true, true, true, true, true, true, true, true, true, true, true, true, true, true, true, true, false, false, false, false, false, false, false, false, false, false, false, false, false, false, false, false, false, false, false, false, false] rfl rfl (by kernel_rfl) (fun _ _ _ h => h) (Or.inl ⟨by rfl, ?_⟩) ?_ ?_
          rotate_left
          · intro w'
            go_simp
            with_reducible rfl
          rotate_left
          · simp only [Act.put, List.setIfInBounds_toArray, List.set_cons_zero, List.set_cons_succ, i64_w, i32_w]
            rfl
          refine pure_ (i := 18) (N := some 52) (v := ?_) (a' := ?_) #[true, true, true, true, true, true, true, true, true, true, true, true, true, true, true, true, true, false, true, false, false, false, false, false, false, false, false, false, false, false, false, false, false, false, false, false, false, false] rfl rfl (by kernel_rfl) (fun _ _ _ h => h) (Or.inl ⟨by rfl, ?_⟩) ?_ ?_
          rotate_left
          · intro w'
            go_simp
            with_reducible rfl
          rotate_left
          · simp only [Act.put, List.setIfInBounds_toArray, List.set_cons_zero, List.set_cons_succ, i64_w, i32_w]
            rfl
          refine take_ (i := 17) (N := some 51) (v := ?_) (a' := ?_) #[true, true, true, true, true, true, true, true, true, true, true, true, true, true, true, true, true, true, true, false, false, false, false, false, false, false, false, false, false, false, false, false, false, false, false, false, false, false] rfl rfl (by kernel_rfl) (fun _ _ _ h => h) (Or.inl ⟨by rfl, ?_⟩) hHeld ?_ ?_
          rotate_left
          · rintro w' ⟨s0, s1, s2, s3, s4, s5, s6, s7⟩
            go_simp
            with_reducible rfl
          rotate_left
          · simp only [Act.put, List.setIfInBounds_toArray, List.set_cons_zero, List.set_cons_succ, i64_w, i32_w]
            rfl
          refine take_ (i := 19) (N := some 53) (v := ?_) (a' := ?_) #[true, true, true, true, true, true, true, true, true, true, true, true, true, true, true, true, true, true, true, true, false, false, false, false, false, false, false, false, false, false, false, false, false, false, false, false, false, false] rfl rfl (by kernel_rfl) (fun _ _ _ h => h) (Or.inl ⟨by rfl, ?_⟩) hHeld ?_ ?_
          rotate_left
          · rintro w' ⟨s0, s1, s2, s3, s4, s5, s6, s7⟩
            go_simp
            with_reducible rfl
          rotate_left
          · simp only [Act.put, List.setIfInBounds_toArray, List.set_cons_zero, List.set_cons_succ, i64_w, i32_w]
            rfl
          refine pure_ (i := 20) (N := some 54) (v := ?_) (a' := ?_) #[true, true, true, true, true, true, true, true, true, true, true, true, true, true, true, true, true, true, true, true, true, false, false, false, false, false, false, false, false, false, false, false, false, false, false, false, false, false] rfl rfl (by kernel_rfl) (fun _ _ _ h => h) (Or.inl ⟨by rfl, ?_⟩) ?_ ?_
          rotate_left
          · intro w'
            go_simp
            with_reducible rfl
          rotate_left
          · simp only [Act.put, List.setIfInBounds_toArray, List.set_cons_zero, List.set_cons_succ, i64_w, i32_w]
            rfl
          refine pure_ (i := 21) (N := some 55) (v := ?_) (a' := ?_) #[true, true, true, true, true, true, true, true, true, true, true, true, true, true, true, true, true, true, true, true, true, true, false, false, false, false, false, false, false, false, false, false, false, false, false, false, false, false] rfl rfl (by kernel_rfl) (fun _ _ _ h => h) (Or.inl ⟨by rfl, ?_⟩) ?_ ?_
          rotate_left
          · intro w'
            go_simp
            with_reducible rfl
          rotate_left
          · simp only [Act.put, List.setIfInBounds_toArray, List.set_cons_zero, List.set_cons_succ, i64_w, i32_w]
            rfl
          refine pure_ (i := 22) (N := some 56) (v := ?_) (a' := ?_) #[true, true, true, true, true, true, true, true, true, true, true, true, true, true, true, true, true, true, true, true, true, true, true, false, false, false, false, false, false, false, false, false, false, false, false, false, false, false] rfl rfl (by kernel_rfl) (fun _ _ _ h => h) (Or.inl ⟨by rfl, ?_⟩) ?_ ?_
          rotate_left
          · intro w'
            go_simp
            with_reducible rfl
          rotate_left
          · simp only [Act.put, List.setIfInBounds_toArray, List.set_cons_zero, List.set_cons_succ, i64_w, i32_w]
            rfl
          refine pure_ (i := 23) (N := some 57) (v := ?_) (a' := ?_) #[true, true, true, true, true, true, true, true, true, true, true, true, true, true, true, true, true, true, true, true, true, true, true, true, false, false, false, false, false, false, false, false, false, false, false, false, false, false] rfl rfl (by kernel_rfl) (fun _ _ _ h => h) (Or.inl ⟨by rfl, ?_⟩) ?_ ?_
          rotate_left
          · intro w'
            go_simp
            with_reducible rfl
          rotate_left
          · simp only [Act.put, List.setIfInBounds_toArray, List.set_cons_zero, List.set_cons_succ, i64_w, i32_w]
            rfl
          refine take_ (i := 24) (N := some 58) (v := ?_) (a' := ?_) #[true, true, true, true, true, true, true, true, true, true, true, true, true, true, true, true, true, true, true, true, true, true, true, true, true, false, false, false, false, false, false, false, false, false, false, false, false, false] rfl rfl (by kernel_rfl) (fun _ _ _ h => h) (Or.inl ⟨by rfl, ?_⟩) hHeld ?_ ?_
          rotate_left
          · rintro w' ⟨s0, s1, s2, s3, s4, s5, s6, s7⟩
            go_simp
            with_reducible rfl
          rotate_left
          · simp only [Act.put, List.setIfInBounds_toArray, List.set_cons_zero, List.set_cons_succ, i64_w, i32_w]
            rfl
          refine pure_ (i := 25) (N := some 59) (v := ?_) (a' := ?_) #[true, true, true, true, true, true, true, true, true, true, true, true, true, true, true, true, true, true, true, true, true, true, true, true, true, true, false, false, false, false, false, false, false, false, false, false, false, false] rfl rfl (by kernel_rfl) (fun _ _ _ h => h) (Or.inl ⟨by rfl, ?_⟩) ?_ ?_
          rotate_left
          · intro w'
            go_simp
            with_reducible rfl
          rotate_left
          · simp only [Act.put, List.setIfInBounds_toArray, List.set_cons_zero, List.set_cons_succ, i64_w, i32_w]
            rfl
          refine pure_ (i := 26) (N := some 60) (v := ?_) (a' := ?_) #[true, true, true, true, true, true, true, true, true, true, true, true, true, true, true, true, true, true, true, true, true, true, true, true, true, true, true, false, false, false, false, false, false, false, false, false, false, false] rfl rfl (by kernel_rfl) (fun _ _ _ h => h) (Or.inl ⟨by rfl, ?_⟩) ?_ ?_
          rotate_left
          · intro w'
            go_simp
            with_reducible rfl
          rotate_left
          · simp only [Act.put, List.setIfInBounds_toArray, List.set_cons_zero, List.set_cons_succ, i64_w, i32_w]
            rfl
          refine pure_ (i := 27) (N := some 61) (v := ?_) (a' := ?_) #[true, true, true, true, true, true, true, true, true, true, true, true, true, true, true, true, true, true, true, true, true, true, true, true, true, true, true, true, false, false, false, false, false, false, false, false, false, false] rfl rfl (by kernel_rfl) (fun _ _ _ h => h) (Or.inl ⟨by rfl, ?_⟩) ?_ ?_
          rotate_left
          · intro w'
            go_simp
            with_reducible rfl
          rotate_left
          · simp only [Act.put, List.setIfInBounds_toArray, List.set_cons_zero, List.set_cons_succ, i64_w, i32_w]
            rfl
          refine take_ (i := 28) (N := some 62) (v := ?_) (a' := ?_) #[true, true, true, true, true, true, true, true, true, true, true, true, true, true, true, true, true, true, true, true, true, true, true, true, true, true, true, true, true, false, false, false, false, false, false, false, false, false] rfl rfl (by kernel_rfl) (fun _ _ _ h => h) (Or.inl ⟨by rfl, ?_⟩) hHeld ?_ ?_
          rotate_left
          · rintro w' ⟨s0, s1, s2, s3, s4, s5, s6, s7⟩
            go_simp
            with_reducible rfl
          rotate_left
          · simp only [Act.put, List.setIfInBounds_toArray, List.set_cons_zero, List.set_cons_succ, i64_w, i32_w]
            rfl
          refine pure_ (i := 29) (N := some 63) (v := ?_) (a' := ?_) #[true, true, true, true, true, true, true, true, true, true, true, true, true, true, true, true, true, true, true, true, true, true, true, true, true, true, true, true, true, true, false, false, false, false, false, false, false, false] rfl rfl (by kernel_rfl) (fun _ _ _ h => h) (Or.inl ⟨by rfl, ?_⟩) ?_ ?_
          rotate_left
          · intro w'
            go_simp
            with_reducible rfl
          rotate_left
          · simp only [Act.put, List.setIfInBounds_toArray, List.set_cons_zero, List.set_cons_succ, i64_w, i32_w]
            rfl
          refine pure_ (i := 30) (N := some 64) (v := ?_) (a' := ?_) #[true, true, true, true, true, true, true, true, true, true, true, true, true, true, true, true, true, true, true, true, true, true, true, true, true, true, true, true, true, true, true, false, false, false, false, false, false, false] rfl rfl (by kernel_rfl) (fun _ _ _ h => h) (Or.inl ⟨by rfl, ?_⟩) ?_ ?_
          rotate_left
          · intro w'
            go_simp
            with_reducible rfl
          rotate_left
          · simp only [Act.put, List.setIfInBounds_toArray, List.set_cons_zero, List.set_cons_succ, i64_w, i32_w]
            rfl
          refine pure_ (i := 31) (N := some 65) (v := ?_) (a' := ?_) #[true, true, true, true, true, true, true, true, true, true, true, true, true, true, true, true, true, true, true, true, true, true, true, true, true, true, true, true, true, true, true, true, false, false, false, false, false, false] rfl rfl (by kernel_rfl) (fun _ _ _ h => h) (Or.inl ⟨by rfl, ?_⟩) ?_ ?_
          rotate_left
          · intro w'
            go_simp
            with_reducible rfl
          rotate_left
          · simp only [Act.put, List.setIfInBounds_toArray, List.set_cons_zero, List.set_cons_succ, i64_w, i32_w]
            rfl
          refine pure_ (i := 32) (N := some 66) (v := ?_) (a' := ?_) #[true, true, true, true, true, true, true, true, true, true, true, true, true, true, true, true, true, true, true, true, true, true, true, true, true, true, true, true, true, true, true, true, true, false, false, false, false, false] rfl rfl (by kernel_rfl) (fun _ _ _ h => h) (Or.inl ⟨by rfl, ?_⟩) ?_ ?_
          rotate_left
          · intro w'
            go_simp
            with_reducible rfl
          rotate_left
          · simp only [Act.put, List.setIfInBounds_toArray, List.set_cons_zero, List.set_cons_succ, i64_w, i32_w]
            rfl
          refine take_ (i := 33) (N := some 67) (v := ?_) (a' := ?_) #[true, true, true, true, true, true, true, true, true, true, true, true, true, true, true, true, true, true, true, true, true, true, true, true, true, true, true, true, true, true, true, true, true, true, false, false, false, false] rfl rfl (by kernel_rfl) (fun _ _ _ h => h) (Or.inl ⟨by rfl, ?_⟩) hHeld ?_ ?_
          rotate_left
          · rintro w' ⟨s0, s1, s2, s3, s4, s5, s6, s7⟩
            go_simp
            with_reducible rfl
          rotate_left
          · simp only [Act.put, List.setIfInBounds_toArray, List.set_cons_zero, List.set_cons_succ, i64_w, i32_w]
            rfl
          refine pure_ (i := 34) (N := some 68) (v := ?_) (a' := ?_) #[true, true, true, true, true, true, true, true, true, true, true, true, true, true, true, true, true, true, true, true, true, true, true, true, true, true, true, true, true, true, true, true, true, true, true, false, false, false] rfl rfl (by kernel_rfl) (fun _ _ _ h => h) (Or.inl ⟨by rfl, ?_⟩) ?_ ?_
          rotate_left
          · intro w'
            go_simp
            with_reducible rfl
          rotate_left
          · simp only [Act.put, List.setIfInBounds_toArray, List.set_cons_zero, List.set_cons_succ, i64_w, i32_w]
            rfl
          refine pure_ (i := 35) (N := some 69) (v := ?_) (a' := ?_) #[true, true, true, true, true, true, true, true, true, true, true, true, true, true, true, true, true, true, true, true, true, true, true, true, true, true, true, true, true, true, true, true, true, true, true, true, false, false] rfl rfl (by kernel_rfl) (fun _ _ _ h => h) (Or.inl ⟨by rfl, ?_⟩) ?_ ?_
          rotate_left
          · intro w'
            go_simp
            with_reducible rfl
          rotate_left
          · simp only [Act.put, List.setIfInBounds_toArray, List.set_cons_zero, List.set_cons_succ, i64_w, i32_w]
            rfl
          refine pure_ (i := 36) (N := some 70) (v := ?_) (a' := ?_) #[true, true, true, true, true, true, true, true, true, true, true, true, true, true, true, true, true, true, true, true, true, true, true, true, true, true, true, true, true, true, true, true, true, true, true, true, true, false] rfl rfl (by kernel_rfl) (fun _ _ _ h => h) (Or.inl ⟨by rfl, ?_⟩) ?_ ?_
          rotate_left
          · intro w'
            go_simp
            with_reducible rfl
          rotate_left
          · simp only [Act.put, List.setIfInBounds_toArray, List.set_cons_zero, List.set_cons_succ, i64_w, i32_w]
            rfl
          refine pure_ (i := 37) (N := some 71) (v := ?_) (a' := ?_) #[true, true, true, true, true, true, true, true, true, true, true, true, true, true, true, true, true, true, true, true, true, true, true, true, true, true, true, true, true, true, true, true, true, true, true, true, true, true] rfl rfl (by kernel_rfl) (fun _ _ _ h => h) (Or.inl ⟨by rfl, ?_⟩) ?_ ?_
          rotate_left
          · intro w'
            go_simp
            with_reducible rfl
          rotate_left
          · simp only [Act.put, List.setIfInBounds_toArray, List.set_cons_zero, List.set_cons_succ, i64_w, i32_w]
            rfl
          refine done_ (by kernel_rfl) ?_
          clear hHeld
          all_goals go_wp2
          have HG8 := Aside0.mk (HG7.out.below (below_drew (Below.refl _ _)))
          have HBX8 := Aside0.mk (blk_drew HBXb.out)
          have HK8 := Aside0.mk (HKb.out.then_ (Kept.of_below (below_drew (Below.refl _ _)) (fun _ => False)) (fun _ h => h.elim))
          have HB8 := Aside0.mk (below_drew HBb.out)
          obtain ⟨N8, hN8⟩ : ∃ N8, (xd ++ pd).length = N8 := ⟨_, rfl⟩
          have HN8 := Aside0.mk hN8
          clear hN8 HG7 HBXb HKb HBb hc0 hc1 hc2 hc3 hb0 hb1 hb2 hb3 hb4 hfb0 hfb1 hfb2 hfb3 hfb4
          generalize Wa.drew = W8 at HG8 HBX8 HK8 HB8 ⊢
          refine start_ (n := 11) (S := fun w' => w'.cell? ⟨gq, q * 4 + 2, none⟩ = some (.slice xA xn xc) ∧ w'.cell? ⟨bx, 2, none⟩ = some (.slice pA (pn + 1) pc)) (ds := [10]) #[false, false, false, false, false, false, false, false, false, false, false] (by kernel_rfl) rfl rfl ⟨(gc_at HG8.out HFQ.out HLQ.out).2.2.1, blk_cell HBX8.out 2⟩ (fun hHeld => ?_)
          have HG9 := Aside0.mk (HG8.out.below (below_drew (Below.refl _ _)))
          have HBX9 := Aside0.mk (blk_drew HBX8.out)
          have HK9 := Aside0.mk (HK8.out.then_ (Kept.of_below (below_drew (Below.refl _ _)) (fun _ => False)) (fun _ h => h.elim))
          have HB9 := Aside0.mk (below_drew HB8.out)
          clear HG8 HBX8 HK8 HB8
          generalize W8.drew = W9 at hHeld HG9 HBX9 HK9 HB9 ⊢
          have HXR := Aside0.mk (show Kd.R (Kd.int .u8) 5 W9 B (okN ok W) (.slice xA xn xc) xd from gc_row HG9.out HFQ.out HXD.out HLQ.out)
          have HPD := Aside0.mk (HP.out W9 HK9.out)
          have HFR := Aside0.mk (fun k (hk : W9.heap.size ≤ k) => (show okN ok W k from .inr (Nat.le_trans HK9.out.1 hk)))
          have HBS := Aside0.mk (Nat.le_trans HBW.out HK9.out.1)
          refine pure_ (i := 0) (N := some 73) (v := ?_) (a' := ?_) #[true, false, false, false, false, false, false, false, false, false, false] rfl rfl (by kernel_rfl) (fun _ _ _ h => h) (Or.inl ⟨by rfl, ?_⟩) ?_ ?_
          rotate_left
          · intro w'
            go_simp
            with_reducible rfl
          rotate_left
          · simp only [Act.put, List.setIfInBounds_toArray, List.set_cons_zero, List.set_cons_succ, i64_w, i32_w]
            rfl
          refine pure_ (i := 1) (N := some 74) (v := ?_) (a' := ?_) #[true, true, false, false, false, false, false, false, false, false, false] rfl rfl (by kernel_rfl) (fun _ _ _ h => h) (Or.inl ⟨by rfl, ?_⟩) ?_ ?_
          rotate_left
          · intro w'
            go_simp
            with_reducible rfl
          rotate_left
          · simp only [Act.put, List.setIfInBounds_toArray, List.set_cons_zero, List.set_cons_succ, i64_w, i32_w]
            rfl
          refine pure_ (i := 2) (N := some 75) (v := ?_) (a' := ?_) #[true, true, true, false, false, false, false, false, false, false, false] rfl rfl (by kernel_rfl) (fun _ _ _ h => h) (Or.inl ⟨by rfl, ?_⟩) ?_ ?_
          rotate_left
          · intro w'
            go_simp
            with_reducible rfl
          rotate_left
          · simp only [Act.put, List.setIfInBounds_toArray, List.set_cons_zero, List.set_cons_succ, i64_w, i32_w]
            rfl
          refine pure_ (i := 3) (N := some 76) (v := ?_) (a' := ?_) #[true, true, true, true, false, false, false, false, false, false, false] rfl rfl (by kernel_rfl) (fun _ _ _ h => h) (Or.inl ⟨by rfl, ?_⟩) ?_ ?_
          rotate_left
          · intro w'
            go_simp
            with_reducible rfl
          rotate_left
          · simp only [Act.put, List.setIfInBounds_toArray, List.set_cons_zero, List.set_cons_succ, i64_w, i32_w]
            rfl
          refine pure_ (i := 5) (N := some 78) (v := ?_) (a' := ?_) #[true, true, true, true, false, true, false, false, false, false, false] rfl rfl (by kernel_rfl) (fun _ _ _ h => h) (Or.inl ⟨by rfl, ?_⟩) ?_ ?_
          rotate_left
          · intro w'
            go_simp
            with_reducible rfl
          rotate_left
          · simp only [Act.put, List.setIfInBounds_toArray, List.set_cons_zero, List.set_cons_succ, i64_w, i32_w]
            rfl
          refine take_ (i := 4) (N := some 77) (v := ?_) (a' := ?_) #[true, true, true, true, true, true, false, false, false, false, false] rfl rfl (by kernel_rfl) (fun _ _ _ h => h) (Or.inl ⟨by rfl, ?_⟩) hHeld ?_ ?_
          rotate_left
          · rintro w' ⟨s0, s1⟩
            go_simp
            with_reducible rfl
          rotate_left
          · simp only [Act.put, List.setIfInBounds_toArray, List.set_cons_zero, List.set_cons_succ, i64_w, i32_w]
            rfl
          refine take_ (i := 6) (N := some 79) (v := ?_) (a' := ?_) #[true, true, true, true, true, true, true, false, false, false, false] rfl rfl (by kernel_rfl) (fun _ _ _ h => h) (Or.inl ⟨by rfl, ?_⟩) hHeld ?_ ?_
          rotate_left
          · rintro w' ⟨s0, s1⟩
            go_simp
            with_reducible rfl
          rotate_left
          · simp only [Act.put, List.setIfInBounds_toArray, List.set_cons_zero, List.set_cons_succ, i64_w, i32_w]
            rfl
          refine one_ (i := 7) (N := some 80) #[true, true, true, true, true, true, true, true, false, false, false] rfl rfl (by kernel_rfl) (by decide) (fun K hK => ?_)
          refine Kd.R_append_rows_step (Kd.int .u8) (w0 := W9) B (by rfl) (.tmp 77) (.tmp 79) 26 5 (.int .u8 0) 1 rfl Try.underlying26 info5 rfl (by decide) (by decide) (.slice xA xn xc) xd pd pA (pn + 1) pc (okN ok W) (fun _ => False) (by rfl) (by rfl) HXR.out HPD.out (fun _ _ h => h) (fun _ h => h.elim) HFR.out (Below.refl _ _) HBS.out HZ.out ?_
          intro v8 w8 hR8 hb8 hg8 hat8
          obtain ⟨A8, c8, rfl, hR8⟩ := row_form HN8.out hR8
          have HS8 := Aside0.mk (gc_after (A8 := A8) (xn := N8) (c8 := c8) HG9.out HBX9.out HFQ.out HLQ.out HXR.out hg8)
          have hf8 := HS8.out.2.2.1
          have HB10x := Aside0.mk HS8.out.2.2.2
          have HG10 := Aside0.mk (gc_data HG9.out HFQ.out HXD.out HLQ.out hR8 hg8 hat8)
          have HK10 := Aside0.mk (gc_kept HK9.out HG9.out HXR.out hg8 (.slice A8 N8 c8) q)
          have HB10 := Aside0.mk (below_st HB9.out hb8 HBQ.out (.slice A8 N8 c8) (q * 4 + 2))
          clear hR8 hb8 hg8 hat8
          refine hK.out _ _ ⟨HS8.out.1, HS8.out.2.1⟩ (fun hHeld => ?_)
          clear hK K
          refine norm_ (a' := ?_) ?_ ?_
          rotate_left
          · show Act.put _ (some 80) _ = _
            simp only [Act.put, List.setIfInBounds_toArray, List.set_cons_zero, List.set_cons_succ, i64_w, i32_w]
            rfl
          refine pure_ (i := 8) (N := some 81) (v := ?_) (a' := ?_) #[true, true, true, true, true, true, true, true, true, false, false] rfl rfl (by kernel_rfl) (fun _ _ _ h => h) (Or.inl ⟨by rfl, ?_⟩) ?_ ?_
          rotate_left
          · intro w'
            go_simp
            with_reducible rfl
          rotate_left
          · simp only [Act.put, List.setIfInBounds_toArray, List.set_cons_zero, List.set_cons_succ, i64_w, i32_w]
            rfl
          refine pure_ (i := 9) (N := some 82) (v := ?_) (a' := ?_) #[true, true, true, true, true, true, true, true, true, true, false] rfl rfl (by kernel_rfl) (fun _ _ _ h => h) (Or.inl ⟨by rfl, ?_⟩) ?_ ?_
          rotate_left
          · intro w'
            go_simp
            with_reducible rfl
          rotate_left
          · simp only [Act.put, List.setIfInBounds_toArray, List.set_cons_zero, List.set_cons_succ, i64_w, i32_w]
            rfl
          refine last_ (i := 10) (N := none) #[true, true, true, true, true, true, true, true, true, true, true] rfl rfl (by kernel_rfl) (by decide) (fun K hK => ?_)
          refine skip_ (w1 := ?_) (by rfl) rfl ?_ ?_
          rotate_left
          · go_simp
            rfl
          refine hK.out _ _ ?_
          clear hK K
          refine done_ (by kernel_rfl) ?_
          clear hf8 hHeld
          generalize w8.setCell ⟨gq, q * 4 + 2, none⟩ (.slice A8 N8 c8) = W10 at HG10 HK10 HB10 HB10x ⊢
          have hb4 := blk_cell HB10x.out 4
          have h10 := pq_at HG10.out.row q (by omega)
          have hc3 := h10.1.2.2.2
          have hf3 := h10.2 3
          clear h10
          go_wp2
          have HGZ := Aside0.mk (gc_end HG10.out HMQ.out false)
          have HKZ := Aside0.mk (HK10.out.then_ (kept_set (Kept.refl W10 (fun k => okN ok W k)) (p := ⟨gq, q * 4 + 3, none⟩) (HG10.out.row.1 gq rfl) (.bool false)) (fun k hk => hk))
          have HBZ := Aside0.mk (HB10.out.setCell (p := ⟨gq, q * 4 + 3, none⟩) HBQ.out (.bool false))
          go_roundw
          case rel => exact ⟨t + 1, _, rfl, by go_num, by omega, ⟨⟨_, _, HGZ.out, HREST.out⟩⟩, ⟨HKZ.out⟩, ⟨HBZ.out⟩⟩
          case measure => simp [intOf]; omega
    · obtain rfl : n = t := by omega
      have hd0 : ps.drop n = [] := List.drop_eq_nil_of_le (by rw [HN.out]; exact Nat.le_refl _)
      rw [hd0] at hgl
      obtain rfl := Option.some.inj (show some l = some l' from hgl)
      clear hd0 hgl hGl
      go_wp2
      go_ret2
      exact ⟨_, _, rfl, HGl.out, HK.out, HB.out⟩
end Go.Proofs.Ytapaodagnpaekaa.Lib
