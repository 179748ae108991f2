/- the reader of blocks: Push, walked by hand: what it tells, and what it leaves in the reader. -/
import Derived.Test.YtcfdhfgnfakiiaaV1
import Derived.Deep.RegionLaw
namespace Go.Proofs.Ytcfdhfgnfakiiaa.Lib
open Go.RowKit Go.Proofs.YtcfdhfgnfakiiaaW.PrintWords Go.Proofs.YtcfdhfgnfakiiaaW.PrintLast Go.Proofs.YtcfdhfgnfakiiaaW.PrintMore
attribute [local go_sem] max2_int min2_int max_two min_two
def BytesB (l : List Int) : Prop := ∀ x ∈ l, 0 ≤ x ∧ x ≤ 255
instance (l : List Int) : Decidable (BytesB l) := by unfold BytesB; infer_instance
theorem rd_range {l : List Int} (h : BytesB l) (i : Int) : 0 ≤ rd l i ∧ rd l i ≤ 255 := by
  unfold rd
  rw [List.getD_eq_getElem?_getD]
  cases hq : l[i.toNat]? with
  | none => simp
  | some v => simpa using h v (List.mem_of_getElem? hq)
/-- a reader: its block, its row -/
def IsRd (W : World) (n₀ g : Nat) (left seen : Int) (done : Bool) (vr : Value) (rest : List Int) : Prop :=
  W.heap[g]? = some (.cells #[.int .i64 left, .int .i64 seen, .bool done, vr] 45 (0, 0)) ∧ n₀ ≤ g ∧ Kd.R (Kd.int .u8) 5 W n₀ (fun _ => True) vr rest
/-- what pushed bytes tell: the bytes told; the reader's state behind them; what is put to the rest -/
def pushL : Int → Int → Bool → List Int → List Int × Int × Int × Bool × List Int
  | left, seen, done, [] => ([], left, seen, done, [])
  | left, seen, true, c :: cs => ([], left, seen, true, c :: cs)
  | left, seen, false, c :: cs => if 0 < left then (c :: (pushL (left - 1) (seen + 1) false cs).1, (pushL (left - 1) (seen + 1) false cs).2) else pushL c (seen + 1) (c == 0) cs
/-- what holds bytes is not the reader's block -/
theorem row_ne_rd {w : World} {g n : Nat} {ad : Addr} {l : List Int} {a b : Int} {d : Bool} {A : Option Addr} {m c : Nat} (hg : w.heap[g]? = some (.cells #[.int .i64 a, .int .i64 b, .bool d, .slice A m c] 45 (0, 0))) (hr : Kd.C (Kd.int .u8) w (some ad) n l) (hn : 0 < n) : ad.block ≠ g := by
  intro he
  obtain ⟨ad', e, hx⟩ := Kd.at_int hr 0 (by omega) (by omega)
  cases e
  have e0 : ad.add (0 : Int).toNat = ad := by simp [Addr.add]
  rw [e0] at hx
  unfold World.cell? at hx
  rw [he, hg] at hx
  simp only at hx
  split at hx
  · cases hx
  · rcases ho : ad.off with _ | _ | _ | _ | q <;> rw [ho] at hx <;> simp at hx
theorem wrap64_in {x : Int} (h1 : -9223372036854775808 ≤ x) (h2 : x ≤ 9223372036854775807) : wrap64 x = x := by
  unfold wrap64; omega
/-- what a push leaves -/
def PushSays (w w' : World) (n₀ g : Nat) (vr : Value) (rest : List Int) (P : List Int × Int × Int × Bool × List Int) (e : Ending) : Prop :=
  ∃ o vr' : Value, e = .returned o ∧ IsRd w' n₀ g P.2.1 P.2.2.1 P.2.2.2.1 vr' (rest ++ P.2.2.2.2) ∧ Kd.R (Kd.int .u8) 5 w' w.heap.size (fun k => w.heap.size ≤ k ∧ some k ≠ vr'.ownBlock) o P.1 ∧ KeepBut w w' g vr.ownBlock ∧ Below n₀ w w' ∧ (vr'.ownBlock = vr.ownBlock ∨ ∃ b, vr'.ownBlock = some b ∧ w.heap.size ≤ b)
theorem drop_rd {l : List Int} {k : Nat} (h : k < l.length) : l.drop k = rd l k :: l.drop (k + 1) := by
  rw [List.drop_eq_getElem_cons h]
  congr 1
  unfold rd
  rw [List.getD_eq_getElem?_getD, Int.toNat_natCast, List.getElem?_eq_getElem h]; rfl
theorem pushL_true (a b : Int) (l : List Int) : pushL a b true l = ([], a, b, true, l) := by cases l <;> rfl
theorem pushL_pos {a b c : Int} {l : List Int} (h : 0 < a) : pushL a b false (c :: l) = (c :: (pushL (a - 1) (b + 1) false l).1, (pushL (a - 1) (b + 1) false l).2) := by simp [pushL, h]
theorem pushL_neg {a b c : Int} {l : List Int} (h : ¬ 0 < a) : pushL a b false (c :: l) = pushL c (b + 1) (c == 0) l := by simp [pushL, h]
theorem keep_row {w w1 : World} {g : Nat} (row : Option Nat) (h : KeepBut w w1 g none) : KeepBut w w1 g row := ⟨h.1, fun i hi hg _ => h.2 i hi hg (by simp)⟩
theorem push_end_none {w wr : World} {n₀ g : Nat} {vr u5 : Value} {rest X : List Int} {P : List Int × Int × Int × Bool × List Int} {lf sn : Int} {dn : Bool} (hP : P = (X, lf, sn, dn, []))
    (HO : Kd.R (Kd.int .u8) 5 w n₀ (fun k => k ≠ g ∧ k < w.heap.size) vr rest) (hgn : n₀ ≤ g) (HG : wr.heap[g]? = some (.cells #[.int .i64 lf, .int .i64 sn, .bool dn, vr] 45 (0, 0)))
    (HX : Kd.R (Kd.int .u8) 5 wr w.heap.size (fun k => w.heap.size ≤ k) u5 X) (HK : KeepBut w wr g none) (HBl : Below n₀ w wr) : PushSays w wr n₀ g vr rest P (.returned u5) := by
  subst hP
  refine ⟨u5, vr, rfl, ⟨HG, hgn, ?_⟩, ?_, keep_row _ HK, HBl, .inl rfl⟩
  · simp only [List.append_nil]
    exact Kd.R_mono (Kd.R_keep HO HK (fun _ h => h.1)) (fun _ _ => trivial)
  · refine Kd.R_mono HX (fun k hk => ⟨hk, fun e => ?_⟩)
    have := (HO.1 k e.symm).2
    omega
theorem push_end_done {w wr w1 : World} {n₀ g : Nat} {vr u5 v1 : Value} {rest X T : List Int} {P : List Int × Int × Int × Bool × List Int} {lf sn : Int} {dn : Bool} {ok : Nat → Prop} (hP : P = (X, lf, sn, dn, T))
    (HO : Kd.R (Kd.int .u8) 5 w n₀ (fun k => k ≠ g ∧ k < w.heap.size) vr rest) (hgn : n₀ ≤ g) (hglt : g < w.heap.size) (hG1 : w1.heap[g]? = some (.cells #[.int .i64 lf, .int .i64 sn, .bool dn, vr] 45 (0, 0)))
    (HX : Kd.R (Kd.int .u8) 5 wr w.heap.size (fun k => w.heap.size ≤ k) u5 X) (HK : KeepBut w wr g none) (ho1 : Kd.R (Kd.int .u8) 5 w1 n₀ ok v1 (rest ++ T)) (hok : ∀ k, ok k → k ≠ g) (hg1 : wr.drew.grownBy w1 vr.ownBlock)
    (hat1 : v1.ownBlock = vr.ownBlock ∨ ∃ b, v1.ownBlock = some b ∧ wr.drew.heap.size ≤ b) (HBl : Below n₀ w wr) (hb1 : Below n₀ wr w1) : PushSays w (w1.setCell ⟨g, 3, none⟩ v1) n₀ g vr rest P (.returned u5) := by
  subst hP
  refine ⟨u5, v1, rfl, ⟨by simpa using blk_set hG1 3 v1, hgn, ?_⟩, ?_, ?_, (HBl.trans hb1).setCell (p := ⟨g, 3, none⟩) hgn v1, ?_⟩
  · exact Kd.R_mono (Kd.R_far (p := ⟨g, 3, none⟩) ho1 hok v1) (fun _ _ => trivial)
  · have h1 := Kd.R_bound HX
    have h2 := Kd.R_grown (Kd.R_drew h1) hg1 (fun k hk e => by have := (HO.1 k e.symm).2; have := hk.1; omega)
    have h3 := Kd.R_far (p := ⟨g, 3, none⟩) h2 (fun k hk => by have := hk.1; show k ≠ g; omega) v1
    refine Kd.R_mono h3 (fun k hk => ⟨hk.1, fun e => ?_⟩)
    rcases hat1 with h | ⟨b, hb, hlt⟩
    · rw [h] at e
      have := (HO.1 k e.symm).2
      have := hk.1; omega
    · rw [hb] at e
      have e' := Option.some.inj e
      have h4 : wr.heap.size ≤ b := hlt
      have := hk.2.2.1; omega
  · exact ((keep_row _ (keep_drew HK)).trans (KeepBut.of_grown hg1 g) (.inl rfl)).set_ 3 v1
  · rcases hat1 with h | ⟨b, hb, hlt⟩
    · exact .inl h
    · exact .inr ⟨b, hb, Nat.le_trans HK.1 hlt⟩
theorem keep_out {w wr w1 : World} {g : Nat} {u5 : Value} {X : List Int} (HK : KeepBut w wr g none) (HX : Kd.R (Kd.int .u8) 5 wr w.heap.size (fun k => w.heap.size ≤ k) u5 X) (hg1 : wr.grownBy w1 u5.ownBlock) : KeepBut w w1 g none := by
  refine HK.trans (KeepBut.of_grown hg1 g) ?_
  cases h : u5.ownBlock with
  | none => exact .inl rfl
  | some b => exact .inr ⟨b, rfl, HX.1 b h⟩
set_option maxHeartbeats 1000000 in
set_option maxRecDepth 100000 in
theorem push_walk (n₀ g : Nat) (left seen : Int) (done : Bool) (vr : Value) (rest : List Int) (A : Option Addr) (c : Nat) (l : List Int) (w : World) (hI : IsRd w n₀ g left seen done vr rest) (hr : Kd.C (Kd.int .u8) w A l.length l) (hc : l.length ≤ c)
    (hl : 0 ≤ left ∧ left ≤ 255) (hs : 0 ≤ seen ∧ seen + l.length ≤ 4611686018427387904) (hB : BytesB l) (hlen : l.length ≤ 140737488351232) (hrl : rest.length + l.length ≤ 140737488351232) (hn : n₀ ≤ w.heap.size) :
    Calls Try.prog 12 #[.pointer (some ⟨g, 0, none⟩), .slice A l.length c] w fun e w' => PushSays w w' n₀ g vr rest (pushL left seen done l) e := by
  obtain ⟨hg, hgn, hown⟩ := hI
  obtain ⟨P, hP⟩ : ∃ P, pushL left seen done l = P := ⟨_, rfl⟩
  have HR := Aside0.mk hr
  have HBy := Aside0.mk hB
  obtain ⟨n, hn'⟩ : ∃ n, l.length = n := ⟨_, rfl⟩
  rw [hn'] at HR hc hs hlen hrl ⊢
  have HN := Aside0.mk hn'
  clear hn' hr
  have HO := Aside0.mk (show Kd.R (Kd.int .u8) 5 w n₀ (fun k => k ≠ g ∧ k < w.heap.size) vr rest from Kd.R_mono (Kd.R_bound (Kd.R_types hown hg (by decide))) (fun k h => ⟨h.1.2, h.2.2.1⟩))
  have hglt : g < w.heap.size := blk_lt hg
  have HW := Aside0.mk hg
  clear hown
  go_enter Try.func12, Try.ntmps12
  go_wp2
  go_loopw [5, 12] (fun o i wr => ∃ (k : Nat) (X : List Int) (lf sn : Int) (dn : Bool), i = .int .i64 k ∧ k ≤ n ∧ 0 ≤ lf ∧ lf ≤ 255 ∧ Aside0 (0 ≤ sn ∧ sn + (n - k : Nat) ≤ 4611686018427387904) ∧ X.length ≤ k ∧ Aside0 ((X ++ (pushL lf sn dn (l.drop k)).1, (pushL lf sn dn (l.drop k)).2) = P) ∧ Aside0 (wr.heap[g]? = some (.cells #[.int .i64 lf, .int .i64 sn, .bool dn, vr] 45 (0, 0))) ∧ Aside0 (Kd.R (Kd.int .u8) 5 wr w.heap.size (fun k => w.heap.size ≤ k) o X) ∧ Aside0 (KeepBut w wr g none) ∧ Aside0 (Below n₀ w wr)) (fun o i _ => n - (intOf i).toNat)
  case atStart => exact ⟨0, [], left, seen, done, rfl, by omega, hl.1, hl.2, ⟨by simpa using hs⟩, by simp, ⟨hP⟩, ⟨hg⟩, ⟨Kd.R_nil _ _ _ _ _⟩, ⟨KeepBut.refl _ _ _⟩, ⟨Below.refl _ _⟩⟩
  case round =>
    have hP0 := hP
    clear hg hP hs hl
    obtain ⟨k, X, lf, sn, dn, rfl, hk, hl0, hl1, HS, hX, HP, HG, HX, HK, HBl⟩ := hrel
    by_cases hlt : k < n
    · have hc0 : wr.cell? ⟨g, 0, none⟩ = some (.int .i64 lf) := blk_cell HG.out 0
      have hc1 : wr.cell? ⟨g, 1, none⟩ = some (.int .i64 sn) := blk_cell HG.out 1
      have hc2 : wr.cell? ⟨g, 2, none⟩ = some (.bool dn) := blk_cell HG.out 2
      have hc3 : wr.cell? ⟨g, 3, none⟩ = some vr := blk_cell HG.out 3
      have hf0 := blk_frozen HG.out 0
      have hf1 := blk_frozen HG.out 1
      have hf2 := blk_frozen HG.out 2
      have hf3 := blk_frozen HG.out 3
      obtain ⟨ad, rfl, hxc⟩ := Kd.at_int HR.out (k : Int) (by omega) (by omega)
      have hgne : ad.block ≠ g := by
        obtain ⟨A0, c0, e0⟩ := Kd.R_slice HO.out
        subst e0
        exact row_ne_rd HW.out HR.out (by omega)
      have hCr : Kd.C (Kd.int .u8) wr (some ad) l.length l := by
        rw [HN.out]
        exact Kd.C_foot_ne (fun h => h) HR.out (fun a ha _ => by cases ha; exact hgne) wr HK.out
      have hxk : wr.cell? (ad.add k) = some (.int .u8 (rd l k)) := by
        obtain ⟨ad', e', hx'⟩ := Kd.at_int hCr (k : Int) (by omega) (by rw [HN.out]; omega)
        cases e'
        simpa using hx'
      cases dn with
      | true =>
        have hOr := Kd.R_keep HO.out HK.out (fun _ h => h.1)
        have hCd : Kd.C (Kd.int .u8) wr (if c = k then some ad else some (ad.add k)) (n - k) (l.drop k) := by
          have h := Kd.C_drop (m := k) hCr (by rw [HN.out]; omega) (c := c) (by rw [HN.out]; omega)
          have e : (Kd.int .u8).sz = 1 := rfl
          rw [e, Nat.mul_one, List.length_drop, HN.out] at h
          exact h
        have HOr := Aside0.mk (Kd.R_mono (ok' := fun k' => k' ≠ g ∧ (k' < w.heap.size ∨ wr.heap.size ≤ k')) hOr (fun _ h => ⟨h.1, .inl h.2⟩))
        have HCd := Aside0.mk hCd
        have hks := HK.out.1
        clear hOr hCd
        go_wp2
        go_region_law (refine Kd.R_append_rows_step (Kd.int .u8) (w0 := wr) n₀ (by rfl) (.tmp 25) (.tmp 28) 22 5 (.int .u8 0) 1 rfl Try.underlying22 info5_ rfl (by decide) (by omega) vr rest (l.drop k) _ _ _ (fun k' => k' ≠ g ∧ (k' < w.heap.size ∨ wr.heap.size ≤ k')) (fun _ => False) rfl rfl (Kd.R_drew HOr.out) (Kd.C_drew HCd.out) (fun _ _ h => h) (fun _ h => h.elim) (fun k' hk' => ⟨by have : wr.heap.size ≤ k' := hk'; omega, .inr hk'⟩) (below_drew (Below.refl _ _)) (by show n₀ ≤ wr.heap.size; omega) (by omega) ?_; intro v1 w1 ho1 hb1 hg1 hat1; obtain ⟨A1, c1, e1⟩ := Kd.R_slice ho1; subst e1; have hG1 : w1.heap[g]? = some (.cells #[.int .i64 lf, .int .i64 sn, .bool true, vr] 45 (0, 0)) := blk_grown (blk_drew HG.out) hg1 (fun e => (HOr.out.1 _ e.symm).1 rfl); have hc31 := blk_cell hG1 3; have hf31 := blk_frozen hG1 3)
        go_wp2
        refine bodyPost_ret (results_tmp rfl _ _ _) rfl ?_
        have hlen1 : (rest ++ l.drop k).length = rest.length + (l.length - k) := by simp
        rw [hlen1] at ho1 hat1
        have hp := HP.out
        rw [pushL_true] at hp
        simp only [List.append_nil] at hp
        exact push_end_done hp.symm HO.out hgn hglt hG1 HX.out HK.out ho1 (fun _ h => h.1) hg1 hat1 HBl.out hb1
      | false =>
        have hgx : ∀ k', w.heap.size ≤ k' → k' ≠ g := fun k' h => by omega
        have hs' := HS.out
        have ES := Aside0.mk (show wrap64 (sn + 1) = sn + 1 from wrap64_in (by omega) (by omega))
        clear hs'
        by_cases h0 : 0 < lf
        · have EL := Aside0.mk (show wrap64 (lf - 1) = lf - 1 from wrap64_in (by omega) (by omega))
          have HX1 := Aside0.mk (Kd.R_far (p := ⟨g, 1, none⟩) HX.out hgx (.int .i64 (wrap64 (sn + 1))))
          have hG0 : (wr.setCell ⟨g, 1, none⟩ (.int .i64 (wrap64 (sn + 1)))).heap[g]? = some (.cells #[.int .i64 lf, .int .i64 (wrap64 (sn + 1)), .bool false, vr] 45 (0, 0)) := by simpa using blk_set HG.out 1 (.int .i64 (wrap64 (sn + 1)))
          have HG0 := Aside0.mk hG0
          clear hG0
          have HSZ := Aside0.mk (show w.heap.size ≤ (wr.setCell ⟨g, 1, none⟩ (.int .i64 (wrap64 (sn + 1)))).heap.size by rw [World.size_setCell]; exact HK.out.1)
          go_wp2_with (at_builtin; go_loud (refine Kd.R_append (Kd.int .u8) (w0 := wr.setCell ⟨g, 1, none⟩ (.int .i64 (wrap64 (sn + 1)))) w.heap.size rfl (.tmp 44) (.tmp 46) 22 5 (.int .u8 0) 1 rfl Try.underlying22 info5_ rfl (by decide) (by omega) u5 X (rd l k) [.int .u8 (rd l k)] (fun k' => w.heap.size ≤ k') (fun _ => False) rfl (by rw [World.size_setCell]; rfl) rfl (fun _ hk => hk.elim) (fun k' hk' => Nat.le_trans HSZ.out hk') HX1.out (Below.refl _ _) HSZ.out (by omega) ?_); intro v1 w1 ho1 hb1 hg1 hat1; have hG1 : w1.heap[g]? = some (.cells #[.int .i64 lf, .int .i64 (wrap64 (sn + 1)), .bool false, vr] 45 (0, 0)) := blk_grown HG0.out hg1 (fun e => by have := HX1.out.1 _ e.symm; omega); have hc01 := blk_cell hG1 0; have hf01 := blk_frozen hG1 0; have HG1 := Aside0.mk hG1; have HO1 := Aside0.mk ho1; have HGR := Aside0.mk hg1; have HB1 := Aside0.mk hb1; clear hG1 ho1 hb1 hg1 hat1)
          have hdr := drop_rd (l := l) (k := k) (by rw [HN.out]; omega)
          have hp := HP.out
          rw [hdr, pushL_pos h0] at hp
          have hs' := HS.out
          refine ⟨⟨k + 1, X ++ [rd l k], lf - 1, sn + 1, false, by push_cast; rfl, by omega, by omega, by omega, ⟨by omega, by omega⟩, by simp; omega, ⟨by simpa using hp⟩, ⟨?_⟩, ⟨Kd.R_far (p := ⟨g, 0, none⟩) HO1.out hgx _⟩, ⟨(keep_out (HK.out.set_ 1 _) HX1.out HGR.out).set_ 0 _⟩, ⟨((HBl.out.setCell (p := ⟨g, 1, none⟩) hgn _).trans (HB1.out.mono hn)).setCell (p := ⟨g, 0, none⟩) hgn _⟩⟩, by simp [intOf]; omega⟩
          have hb := blk_set HG1.out 0 (.int .i64 (lf - 1))
          simp only [ES.out] at hb
          simpa using hb
        · go_wp2
          have hdr := drop_rd (l := l) (k := k) (by rw [HN.out]; omega)
          have hp := HP.out
          rw [hdr, pushL_neg h0] at hp
          have hs' := HS.out
          have hrr := rd_range HBy.out (k : Int)
          have hw : wrap64 (rd l k) = rd l k := wrap64_in (by omega) (by omega)
          rw [hw]
          refine ⟨⟨k + 1, X, rd l k, sn + 1, rd l k == 0, by push_cast; rfl, by omega, by omega, by omega, ⟨by omega, by omega⟩, by omega, ⟨hp⟩, ⟨?_⟩, ⟨Kd.R_far (p := ⟨g, 2, none⟩) (Kd.R_far (p := ⟨g, 0, none⟩) (Kd.R_far (p := ⟨g, 1, none⟩) HX.out hgx _) hgx _) hgx _⟩, ⟨((HK.out.set_ 1 _).set_ 0 _).set_ 2 _⟩, ⟨((HBl.out.setCell (p := ⟨g, 1, none⟩) hgn _).setCell (p := ⟨g, 0, none⟩) hgn _).setCell (p := ⟨g, 2, none⟩) hgn _⟩⟩, by simp [intOf]; omega⟩
          have hb := blk_set (blk_set (blk_set HG.out 1 (.int .i64 (wrap64 (sn + 1)))) 0 (.int .i64 (rd l k))) 2 (.bool (rd l k == 0))
          simp only [ES.out] at hb ⊢
          simpa using hb
    · go_wp2
      refine bodyPost_ret (results_tmp rfl _ _ _) rfl ?_
      have hp := HP.out
      rw [List.drop_eq_nil_of_le (by rw [HN.out]; omega)] at hp
      exact push_end_none (by rw [hP0, ← hp]; simp [pushL]) HO.out hgn HG.out HX.out HK.out HBl.out
end Go.Proofs.Ytcfdhfgnfakiiaa.Lib
