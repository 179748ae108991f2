/- Ack: walked by hand. -/
import Derived.Test.YtfmggodmhklfoaaV2
namespace Go.Proofs.Ytfmggodmhklfoaa.Lib
open Go.RowKit Go.Proofs.YtfmggodmhklfoaaW.PrintWords Go.Proofs.YtfmggodmhklfoaaW.PrintLast Go.Proofs.YtfmggodmhklfoaaW.PrintMore
set_option linter.unusedVariables false
set_option linter.unusedSimpArgs false
attribute [local go_sem] max2_int min2_int max_two min_two
/-- an array of two whole numbers -/
def k52 : Kd (Int × Int) := Kd.pair (Kd.int .i64) (Kd.int .i64)
theorem k52_open {w : World} {x : Int × Int} {cs : List Value} (h : k52.K w x cs) : cs = [.int .i64 x.1, .int .i64 x.2] := by
  obtain ⟨_, _, rfl, rfl, rfl⟩ := h
  exact rfl
theorem k52_at {w : World} {A : Option Addr} {n : Nat} {xs : List (Int × Int)} (h : Kd.C k52 w A n xs) (i : Nat) (hi : i < n) : ∃ ad, A = some ad ∧ w.cell? (ad.add (i * 2)) = some (.int .i64 (xs.getD i (0, 0)).1) ∧ w.cell? ⟨(ad.add (i * 2)).block, (ad.add (i * 2)).off + 1, none⟩ = some (.int .i64 (xs.getD i (0, 0)).2) := by
  obtain ⟨ad, c, e, _, hK, hc0⟩ := Kd.C_get h (0, 0) (i : Int) (by omega) (by omega)
  simp only [Int.toNat_natCast] at hK hc0
  have hc : ∀ j u, c[j]? = some u → w.cell? (ad.add (i * 2 + j)) = some u := hc0
  obtain rfl := k52_open hK
  exact ⟨ad, e, hc 0 _ rfl, by rw [← add_field _ _ 1 (by omega)]; exact hc 1 _ rfl⟩
theorem Left.alloc {w w1 : World} {n₀ g : Nat} {vs v1 : Value} (h : Left w w1 n₀ g vs v1) (hn : n₀ ≤ w1.heap.size) (o : Obj) : Left w (w1.alloc o) n₀ g vs v1 := h.trans ⟨KeepBut.of_below ((Below.refl _ _).alloc (Nat.le_refl _) o) _ _, (Below.refl _ _).alloc hn o, .inl rfl⟩
theorem IsSd.alloc {W : World} {n₀ g : Nat} {c : Cfg} {bs nw : Int} {vs : Value} {its : List S54} (h : IsSd W n₀ g c bs nw vs its) (o : Obj) : IsSd (W.alloc o) n₀ g c bs nw vs its := h.ext ((Below.refl _ _).alloc (Nat.le_refl _) o)
theorem IsSd.lt {W : World} {n₀ g : Nat} {c : Cfg} {bs nw : Int} {vs : Value} {its : List S54} (h : IsSd W n₀ g c bs nw vs its) : n₀ < W.heap.size := Nat.lt_of_le_of_lt h.ge (blk_lt h.blk)
theorem IsSd.put6 {W : World} {n₀ g : Nat} {c : Cfg} {bs nw : Int} {vs v2 : Value} {its i2 : List S54} (h : IsSd W n₀ g c bs nw vs its) (hv : Kd.Q k54 54 W n₀ (fun _ => True) v2 i2) : IsSd (W.setCell ⟨g, 6, none⟩ v2) n₀ g c bs nw v2 i2 :=
  ⟨blk_put h.blk 6 v2 rfl, h.ge, Kd.Q_set hv h.blk (by decide) 6 v2⟩
theorem IsSd.put4 {W : World} {n₀ g : Nat} {c : Cfg} {bs nw : Int} {vs : Value} {its : List S54} (h : IsSd W n₀ g c bs nw vs its) (b2 : Int) : IsSd (W.setCell ⟨g, 4, none⟩ (.int .i64 b2)) n₀ g c b2 nw vs its :=
  ⟨blk_put h.blk 4 _ rfl, h.ge, Kd.Q_set h.row h.blk (by decide) 4 _⟩
theorem IsSd.put5 {W : World} {n₀ g : Nat} {c : Cfg} {bs nw : Int} {vs : Value} {its : List S54} (h : IsSd W n₀ g c bs nw vs its) (b2 : Int) : IsSd (W.setCell ⟨g, 5, none⟩ (.int .i64 b2)) n₀ g c bs b2 vs its :=
  ⟨blk_put h.blk 5 _ rfl, h.ge, Kd.Q_set h.row h.blk (by decide) 5 _⟩
theorem Left.setblk {w w1 : World} {n₀ g : Nat} {vs v1 : Value} (h : Left w w1 n₀ g vs v1) (hg : n₀ ≤ g) (j : Nat) (u v2 : Value) (e : v2.ownBlock = v1.ownBlock) : Left w (w1.setCell ⟨g, j, none⟩ u) n₀ g vs v2 :=
  ⟨h.keep.set_ j u, h.below.setCell (p := ⟨g, j, none⟩) hg u, by rw [e]; exact h.at_⟩
/-- who is hurried: from the end on; how many are acked above -/
def hurry (nw : Int) : List S54 → List S54 × Nat
  | [] => ([], 0)
  | x :: xs => if x.f0 = true then (x :: (hurry nw xs).1, (hurry nw xs).2 + 1) else if 3 ≤ (hurry nw xs).2 ∧ x.f1 = false then (⟨x.f0, true, x.f2, nw⟩ :: (hurry nw xs).1, (hurry nw xs).2) else (x :: (hurry nw xs).1, (hurry nw xs).2)
theorem hurry_acked {nw : Int} {x : S54} {xs : List S54} (h : x.f0 = true) : hurry nw (x :: xs) = (x :: (hurry nw xs).1, (hurry nw xs).2 + 1) := by simp [hurry, h]
theorem hurry_now {nw : Int} {x : S54} {xs : List S54} (h : x.f0 = false) (h3 : 3 ≤ (hurry nw xs).2) (h1 : x.f1 = false) : hurry nw (x :: xs) = (⟨x.f0, true, x.f2, nw⟩ :: (hurry nw xs).1, (hurry nw xs).2) := by simp [hurry, h, h3, h1]
theorem hurry_not {nw : Int} {x : S54} {xs : List S54} (h : x.f0 = false) (h3 : ¬ (3 ≤ (hurry nw xs).2 ∧ x.f1 = false)) : hurry nw (x :: xs) = (x :: (hurry nw xs).1, (hurry nw xs).2) := by
  simp only [hurry, h]
  rw [if_neg (by simp), if_neg h3]
/-- what the ranges mark -/
def markAll (bs : Int) (its : List S54) (rs : List (Int × Int)) : List S54 := rs.foldl (fun l r => markL bs l r.1 r.2) its
theorem markAll_length (bs : Int) (rs : List (Int × Int)) : ∀ its : List S54, (markAll bs its rs).length = its.length := by
  induction rs with
  | nil => intro its; rfl
  | cons r rs ih => intro its; show (markAll bs (markL bs its r.1 r.2) rs).length = _; rw [ih, markL_length]
theorem markAll_snoc (bs : Int) (its : List S54) (rs : List (Int × Int)) (r : Int × Int) : markAll bs its (rs ++ [r]) = markL bs (markAll bs its rs) r.1 r.2 := by simp [markAll]
/-- what is dropped from the front -/
def dropA : Int → List S54 → Int × List S54
  | bs, [] => (bs, [])
  | bs, x :: xs => if x.f0 = true then dropA (bs + 1) xs else (bs, x :: xs)
theorem hurry_length (nw : Int) : ∀ its : List S54, (hurry nw its).1.length = its.length ∧ (hurry nw its).2 ≤ its.length
  | [] => ⟨rfl, Nat.le_refl _⟩
  | x :: xs => by
    have := hurry_length nw xs
    simp only [hurry]
    split
    · simp; omega
    · split <;> (simp; omega)
theorem set_mid2 (l : List S54) (j : Nat) (hj : j < l.length) (x y : S54) (hs : List S54) : (l.take j ++ (x :: hs)).set j y = l.take j ++ (y :: hs) := by
  rw [List.set_append_right _ _ (by simp; omega)]
  simp [show j - min j l.length = 0 by omega]
theorem set_mid (l : List S54) (j : Nat) (hj : j < l.length) (x y : S54) (hs : List S54) (e : l.take (j + 1) = l.take j ++ [x]) : (l.take (j + 1) ++ hs).set j y = l.take j ++ (y :: hs) := by
  rw [e, List.append_assoc]
  exact set_mid2 l j hj x y hs
theorem get_mid (l : List S54) (j : Nat) (hj : j < l.length) (x : S54) (hs : List S54) : (l.take j ++ (x :: hs)).getD j z54 = x := by
  rw [List.getD_eq_getElem?_getD, List.getElem?_append_right (by simp; omega)]
  simp [show j - min j l.length = 0 by omega]
set_option maxHeartbeats 2000000 in
set_option maxRecDepth 100000 in
theorem ack_walk {g : Nat} {c : Cfg} {bs nw : Int} {vs : Value} {its : List S54} (next : Int) (A0 : Option Addr) (c0 : Nat) (rs : List (Int × Int)) (w0 w : World) (hr : Kd.C k52 w0 A0 rs.length rs) (hw : Below w0.heap.size w0 w) (hI : IsSd w w0.heap.size g c bs nw vs its)
    (hbs : 0 ≤ bs ∧ bs + its.length ≤ 4611686018427387904) (hok : ∀ r ∈ rs, -9223372036854775808 ≤ r.1 ∧ r.1 ≤ 9223372036854775807) :
    Calls Try.prog 12 #[.pointer (some ⟨g, 0, none⟩), .int .i64 next, .slice A0 rs.length c0] w fun e w' => e = .returned (.tuple #[]) ∧ ∃ vs', IsSd w' w0.heap.size g c (dropA bs (markAll bs (markL bs its 0 next) rs)).1 nw vs' (hurry nw (dropA bs (markAll bs (markL bs its 0 next) rs)).2).1 ∧ Left w w' w0.heap.size g vs vs' := by
  have HR := Aside0.mk hr
  have HOK := Aside0.mk hok
  have HI := Aside0.mk hI
  have HW := Aside0.mk hw
  have HMK := Aside0.mk (mark_walk 0 next w hI hbs (by omega) hw.size)
  obtain ⟨n, hn⟩ : ∃ n, rs.length = n := ⟨_, rfl⟩
  rw [hn] at HR ⊢
  have HN := Aside0.mk hn
  obtain ⟨⟨bs2, ds⟩, hP⟩ : ∃ P, dropA bs (markAll bs (markL bs its 0 next) rs) = P := ⟨_, rfl⟩
  rw [hP]
  have HP := Aside0.mk hP
  clear hP
  have hnm : n ≤ 9223372036854775807 := Kd.C_max HR.out
  clear hr hok hI hw hn
  go_enter Try.func12, Try.ntmps12
  go_wp2_with (go_at_call 22; refine HMK.out.mono ?_; rintro e w1 ⟨rfl, hI1, hL1⟩; have HI1 := Aside0.mk hI1; have HL1 := Aside0.mk hL1; clear hI1 hL1)
  go_loopw [18] (fun i wr => ∃ k : Nat, i = .int .i64 k ∧ k ≤ n ∧ Aside0 (IsSd wr w0.heap.size g c bs nw vs (markAll bs (markL bs its 0 next) (rs.take k))) ∧ Aside0 (Left w wr w0.heap.size g vs vs)) (fun i _ => n - (intOf i).toNat)
  case atStart => exact ⟨0, rfl, Nat.zero_le _, by simpa [markAll] using HI1, HL1⟩
  case round =>
    clear HI1 HL1 HMK HI
    obtain ⟨k, rfl, hk, HS, HL⟩ := hrel
    by_cases hlt : k < n
    · have hb : Below w0.heap.size w0 wr := HW.out.trans HL.out.below
      obtain ⟨ad, rfl, hx0, hx1⟩ := k52_at (Kd.C_below HR.out hb) k hlt
      obtain ⟨r, hr⟩ : ∃ r, rs.getD k (0, 0) = r := ⟨_, rfl⟩
      rw [hr] at hx0 hx1
      have HMK := Aside0.mk (mark_walk r.1 r.2 (wr.alloc (.cells #[.int .i64 r.1, .int .i64 r.2] 52)) (HS.out.alloc _) (by rw [markAll_length, markL_length]; exact hbs) (HOK.out r (by
        rw [← hr, List.getD_eq_getElem?_getD, List.getElem?_eq_getElem (by rw [HN.out]; omega)]; simp)) (Nat.le_of_lt (HS.out.alloc _).lt))
      have HR2 := Aside0.mk hr
      clear hr hb
      go_wp2_with (go_at_call 22; refine HMK.out.mono ?_; rintro e w1 ⟨rfl, hI1, hL1⟩; have HI1 := Aside0.mk hI1; have HL1 := Aside0.mk hL1; clear hI1 hL1)
      refine ⟨⟨k + 1, by push_cast; rfl, by omega, ⟨?_⟩, ⟨((HL.out.alloc (Nat.le_of_lt HS.out.lt) _).trans HL1.out)⟩⟩, by simp [intOf]; omega⟩
      have e : rs.take (k + 1) = rs.take k ++ [r] := by
        rw [List.take_succ_eq_append_getElem (by rw [HN.out]; omega), ← HR2.out, List.getD_eq_getElem?_getD, List.getElem?_eq_getElem (by rw [HN.out]; omega)]
        rfl
      rw [e, markAll_snoc]
      exact HI1.out
    · obtain rfl : k = n := by omega
      have HS2 := Aside0.mk (show IsSd wr w0.heap.size g c bs nw vs (markAll bs (markL bs its 0 next) rs) by have h := HS.out; rw [List.take_of_length_le (by rw [HN.out]; omega)] at h; exact h)
      have hml : (markAll bs (markL bs its 0 next) rs).length = its.length := by rw [markAll_length, markL_length]
      clear HS HR
      obtain ⟨ms, hms⟩ : ∃ ms, markAll bs (markL bs its 0 next) rs = ms := ⟨_, rfl⟩
      rw [hms] at HS2 hml HP
      clear hms
      rw [← hml] at hbs
      clear hml
      go_wp2
      go_loopg [] ms.length (fun gk wr => ∃ (b2 : Int) (l2 : List S54) (v2 : Value), Aside0 (l2.length = gk) ∧ Aside0 (dropA b2 l2 = (bs2, ds)) ∧ Aside0 (0 ≤ b2 ∧ b2 + l2.length ≤ 4611686018427387904) ∧ Aside0 (IsSd wr w0.heap.size g c b2 nw v2 l2) ∧ Aside0 (Left w wr w0.heap.size g vs v2))
      case atStart => exact ⟨bs, ms, vs, ⟨rfl⟩, HP, ⟨hbs⟩, HS2, HL⟩
      case round =>
        clear HP HS2 HL hbs
        obtain ⟨b2, l2, v2, HG, HD, HB2, HS, HL⟩ := hrel
        have hc6 := blk_cell HS.out.blk 6
        have hc4 := blk_cell HS.out.blk 4
        have hf6 := blk_frozen HS.out.blk 6
        have hf4 := blk_frozen HS.out.blk 4
        obtain ⟨A, cp, e, hcp⟩ := Kd.Q_slice HS.out.row
        subst e
        by_cases hgo : ∃ x xs, l2 = x :: xs ∧ x.f0 = true
        · obtain ⟨x, xs, rfl, hx⟩ := hgo
          obtain ⟨gb, o, cap, e, hb, hlt2, _⟩ := Kd.Q_form HS.out.row (by simp)
          injection e with e1 e2 e3
          subst e1 e3
          have hx0 := (k54_cells HS.out.row 0 (by simp)).1.1
          simp only [List.getD_cons_zero, Nat.zero_mul, Nat.add_zero] at hx0
          rw [hx] at hx0
          have hne := HS.out.ne
          have hd' := HD.out
          rw [dropA, if_pos hx] at hd'
          have HD' := Aside0.mk hd'
          have HQD := Aside0.mk (Kd.Q_drop HS.out.row (k := 1) (by simp))
          have hb2 := HB2.out
          simp only [List.length_cons] at hb2
          have HB3 := Aside0.mk (show 0 ≤ b2 + 1 ∧ b2 + 1 + xs.length ≤ 4611686018427387904 by omega)
          have hb3 : b2 + 1 ≤ 4611686018427387904 := by omega
          have hb4 : 0 ≤ b2 := hb2.1
          have hgn := HS.out.ge
          have hxl : xs.length ≤ 4611686018427387904 := by omega
          have hkl : xs.length + 1 = gk := HG.out
          clear hd' hlt2 hb2 HD HG
          by_cases hc1 : cp = 1
          · subst hc1
            have hdd : xs.length = 0 := by simp only [List.length_cons] at hcp; omega
            have HQ1 := Aside0.mk (show Kd.Q k54 54 wr w0.heap.size (fun _ => True) (.slice (some ⟨gb, o, none⟩) 0 0) xs by
              have h := HQD.out
              rw [if_pos rfl] at h
              have e : (x :: xs).length - 1 = 0 := by simp only [List.length_cons]; omega
              rw [e] at h
              exact h)
            go_wp2
            go_roundg xs.length
            case measure => omega
            case rel => exact ⟨b2 + 1, xs, _, ⟨rfl⟩, HD', HB3, ⟨(HS.out.put6 HQ1.out).put4 _⟩, ⟨(HL.out.setblk hgn 6 _ _ rfl).setblk hgn 4 _ _ rfl⟩⟩
          · have HQ1 := Aside0.mk (show Kd.Q k54 54 wr w0.heap.size (fun _ => True) (.slice (some ⟨gb, o + 4, none⟩) (gk - 1) (cp - 1)) xs by
              have h := HQD.out
              rw [if_neg hc1] at h
              have e : (x :: xs).length - 1 = gk - 1 := by simp only [List.length_cons]; omega
              rw [e] at h
              exact h)
            go_wp2
            go_roundg xs.length
            case measure => omega
            case rel => exact ⟨b2 + 1, xs, _, ⟨rfl⟩, HD', HB3, ⟨(HS.out.put6 HQ1.out).put4 _⟩, ⟨(HL.out.setblk hgn 6 _ _ rfl).setblk hgn 4 _ _ rfl⟩⟩
        · have hstop : (bs2, ds) = (b2, l2) := by
            rw [← HD.out]
            cases l2 with
            | nil => rfl
            | cons x xs =>
              have : x.f0 = false := by
                cases h : x.f0 with
                | false => rfl
                | true => exact absurd ⟨x, xs, rfl, h⟩ hgo
              simp [dropA, this]
          obtain ⟨rfl, rfl⟩ := Prod.mk.inj hstop
          clear hstop
          have hdl : ds.length ≤ 4611686018427387904 := by have := HB2.out; omega
          rcases Nat.eq_zero_or_pos ds.length with h0 | h0
          case' inl =>
            have hd0 : decide (0 < ds.length) = false := decide_eq_false (by omega)
            have hd1 : decide (0 < (ds.length : Int)) = false := decide_eq_false (by omega)
            clear h0 hgo
            go_wp2
          case' inr =>
            have hd0 : decide (0 < ds.length) = true := decide_eq_true h0
            have hd1 : decide (0 < (ds.length : Int)) = true := decide_eq_true (by omega)
            obtain ⟨gb, o, cap, e, hb, hlt2, _⟩ := Kd.Q_form HS.out.row h0
            injection e with e1 e2 e3
            subst e1 e3
            have hx0 := (k54_cells HS.out.row 0 h0).1.1
            have hxa : (ds.getD 0 z54).f0 = false := by
              cases ds with
              | nil => simp at h0
              | cons x xs =>
                cases h : x.f0 with
                | false => exact h
                | true => exact absurd ⟨x, xs, rfl, h⟩ hgo
            rw [hxa] at hx0
            simp only [Nat.zero_mul, Nat.add_zero] at hx0
            clear hxa hgo hlt2
            go_wp2
          all_goals
            clear hd0 hd1
            go_loopw [8, 9] (fun ab i wr => ∃ (k : Nat) (v3 : Value), i = .int .i64 ((k : Int) - 1) ∧ k ≤ ds.length ∧ ab = .int .i64 ((hurry nw (ds.drop k)).2 : Nat) ∧ Aside0 (IsSd wr w0.heap.size g c bs2 nw v3 (ds.take k ++ (hurry nw (ds.drop k)).1)) ∧ Aside0 (Left w wr w0.heap.size g vs v3)) (fun _ i _ => (intOf i + 1).toNat)
            case atStart => exact ⟨ds.length, _, rfl, Nat.le_refl _, by simp [hurry], ⟨by simpa [hurry] using HS.out⟩, HL⟩
            case round =>
              clear HS HL hc6 hc4
              obtain ⟨k, v3, rfl, hk, rfl, HS, HL⟩ := hrel
              cases k with
              | zero =>
                go_wp2
                go_end0
                exact ⟨rfl, v3, by simpa using HS.out, HL.out⟩
              | succ j =>
                have ej : ((j + 1 : Nat) : Int) - 1 = (j : Int) := by omega
                rw [ej]
                obtain ⟨x, hx⟩ : ∃ x, ds[j] = x := ⟨_, rfl⟩
                have hdj : ds.drop j = x :: ds.drop (j + 1) := by rw [← hx]; exact List.drop_eq_getElem_cons (by omega)
                have htk : ds.take (j + 1) = ds.take j ++ [x] := by rw [← hx]; exact List.take_succ_eq_append_getElem (by omega)
                have hhl := hurry_length nw (ds.drop (j + 1))
                have hll : (ds.take (j + 1) ++ (hurry nw (ds.drop (j + 1))).1).length = ds.length := by simp [hhl.1]; omega
                have hgx : (ds.take (j + 1) ++ (hurry nw (ds.drop (j + 1))).1).getD j z54 = x := by
                  rw [htk, List.append_assoc, List.getD_eq_getElem?_getD, List.getElem?_append_right (by simp; omega)]
                  simp
                  rw [show j - min j ds.length = 0 by omega]
                  rfl
                obtain ⟨hs, ab, hh⟩ : ∃ hs ab, hurry nw (ds.drop (j + 1)) = (hs, ab) := ⟨_, _, rfl⟩
                rw [hh] at hll hgx hhl HS ⊢
                simp only at hll hgx hhl HS ⊢
                have hab : ab ≤ ds.length := by have := hhl.2; simp at this; omega
                have hc6 := blk_cell HS.out.blk 6
                have hc5 := blk_cell HS.out.blk 5
                obtain ⟨gb, o, cap, e, hb, hlt2, _⟩ := Kd.Q_form HS.out.row (by omega)
                rw [hll] at e
                subst e
                obtain ⟨⟨hx0, hx1, hx2, hx3⟩, hxf⟩ := k54_cells HS.out.row j (by omega)
                rw [hgx] at hx0 hx1 hx2 hx3
                have hne := HS.out.ne
                have hf1 := hxf 1
                have hf3 := hxf 3
                have HHH := Aside0.mk hh
                have HDJ := Aside0.mk hdj
                have HTK := Aside0.mk htk
                have HGX := Aside0.mk hgx
                clear hxf hh hdj htk hgx hhl hll hx2 hlt2
                cases hxa : x.f0 with
                | true =>
                  rw [hxa] at hx0
                  have HXA := Aside0.mk hxa
                  clear hxa hx1 hx3
                  go_wp2
                  refine ⟨⟨j, _, rfl, by omega, ?_, ⟨?_⟩, HL⟩, by first | (simp [intOf]; done) | (simp [intOf]; omega)⟩
                  · rw [HDJ.out, hurry_acked HXA.out, HHH.out]
                    exact congrArg (Value.int .i64) (by push_cast; omega)
                  · rw [HDJ.out, hurry_acked HXA.out, HHH.out]
                    have h := HS.out
                    rw [HTK.out, List.append_assoc] at h
                    exact h
                | false =>
                  rw [hxa] at hx0
                  have HXA := Aside0.mk hxa
                  clear hxa
                  by_cases h3 : 3 ≤ ab ∧ x.f1 = false
                  · obtain ⟨h3a, h3b⟩ := h3
                    rw [h3b] at hx1
                    have hda : decide (3 ≤ (ab : Int)) = true := decide_eq_true (by omega)
                    have hdb : decide (3 ≤ ab) = true := decide_eq_true h3a
                    have H3b := Aside0.mk h3b
                    clear h3b
                    go_wp2
                    refine ⟨⟨j, _, rfl, by omega, ?_, ⟨?_⟩, ⟨(HL.out.setrow hb _).setrow hb _⟩⟩, by first | (simp [intOf]; done) | (simp [intOf]; omega)⟩
                    · rw [HDJ.out, hurry_now HXA.out (by rw [HHH.out]; exact h3a) H3b.out, HHH.out]
                    · rw [HDJ.out, hurry_now HXA.out (by rw [HHH.out]; exact h3a) H3b.out, HHH.out]
                      have h1 := HS.out.set1 j (by omega) 1 (.bool true) ⟨x.f0, true, x.f2, x.f3⟩ (by omega) (by rw [HGX.out]; rfl)
                      rw [set_mid ds j (by omega) x _ hs HTK.out] at h1
                      have hg2 : (ds.take j ++ (⟨x.f0, true, x.f2, x.f3⟩ :: hs)).getD j z54 = ⟨x.f0, true, x.f2, x.f3⟩ := get_mid ds j (by omega) _ hs
                      have h2 := h1.set1 j (by omega) 3 (.int .i64 nw) ⟨x.f0, true, x.f2, nw⟩ (by omega) (by rw [hg2]; rfl)
                      rw [set_mid2 ds j (by omega)] at h2
                      exact h2
                  · have HH3 := Aside0.mk h3
                    by_cases h3a : 3 ≤ ab
                    · have hx1t : x.f1 = true := by
                        cases h : x.f1 with
                        | true => rfl
                        | false => exact absurd ⟨h3a, h⟩ h3
                      rw [hx1t] at hx1
                      clear hx1t h3
                      have hda : decide (3 ≤ (ab : Int)) = true := decide_eq_true (by omega)
                      have hdb : decide (3 ≤ ab) = true := decide_eq_true h3a
                      go_wp2
                      refine ⟨⟨j, _, rfl, by omega, ?_, ⟨?_⟩, HL⟩, by first | (simp [intOf]; done) | (simp [intOf]; omega)⟩
                      · rw [HDJ.out, hurry_not HXA.out (by rw [HHH.out]; exact HH3.out), HHH.out]
                      · rw [HDJ.out, hurry_not HXA.out (by rw [HHH.out]; exact HH3.out), HHH.out]
                        have h := HS.out
                        rw [HTK.out, List.append_assoc] at h
                        exact h
                    · clear h3
                      have hda : decide (3 ≤ (ab : Int)) = false := decide_eq_false (by omega)
                      have hdb : decide (3 ≤ ab) = false := decide_eq_false h3a
                      go_wp2
                      refine ⟨⟨j, _, rfl, by omega, ?_, ⟨?_⟩, HL⟩, by first | (simp [intOf]; done) | (simp [intOf]; omega)⟩
                      · rw [HDJ.out, hurry_not HXA.out (by rw [HHH.out]; exact HH3.out), HHH.out]
                      · rw [HDJ.out, hurry_not HXA.out (by rw [HHH.out]; exact HH3.out), HHH.out]
                        have h := HS.out
                        rw [HTK.out, List.append_assoc] at h
                        exact h
end Go.Proofs.Ytfmggodmhklfoaa.Lib
