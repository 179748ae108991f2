/- chunk: what the reference's Of comes to, in plain Lean. -/
import Derived.Test.YtapaodagnpaekaaF3
import Derived.Test.YtapaodagnpaekaaP1a
namespace Go.Proofs.Ytapaodagnpaekaa.Lib
open Go.RowKit Go.Proofs.YtapaodagnpaekaaW.PrintWords Go.Proofs.YtapaodagnpaekaaW.PrintLast Go.Proofs.YtapaodagnpaekaaW.PrintMore
set_option linter.unusedVariables false
set_option linter.unusedSimpArgs false
theorem four {l : List Int} (h : l.length = 4) : ∃ a b c d, l = [a, b, c, d] := by
  match l, h with
  | [a, b, c, d], _ => exact ⟨a, b, c, d, rfl⟩
theorem ev_num {l : List Int} (h : l.length = 4) (hb : Bytes l) : Ev (fun k => halftoneref02_Number.f k l) (beN l) := by
  obtain ⟨a, b, c, d, rfl⟩ := four h
  have ha := hb a (by simp)
  have hb' := hb b (by simp)
  have hc := hb c (by simp)
  have hd := hb d (by simp)
  refine ⟨5, fun k hk => ?_⟩
  obtain ⟨j, rfl⟩ : ∃ j, k = j + 5 := ⟨k - 5, by omega⟩
  have w0 : ∀ x : Int, 0 ≤ x → x ≤ 4294967295 → wrap64 x = x := fun x h1 h2 => by unfold wrap64; omega
  have e1 : wrap64 1 = 1 := w0 1 (by omega) (by omega)
  have e2 : wrap64 2 = 2 := w0 2 (by omega) (by omega)
  have e3 : wrap64 3 = 3 := w0 3 (by omega) (by omega)
  have e4 : wrap64 4 = 4 := w0 4 (by omega) (by omega)
  have f0 : wrap64 0 = 0 := w0 0 (by omega) (by omega)
  have ra : wrap64 a = a := w0 a (by omega) (by omega)
  have rb : wrap64 b = b := w0 b (by omega) (by omega)
  have rc : wrap64 c = c := w0 c (by omega) (by omega)
  have rd' : wrap64 d = d := w0 d (by omega) (by omega)
  have g1 : wrap64 (256 * a) = 256 * a := w0 _ (by omega) (by omega)
  have g2 : wrap64 (256 * a + b) = 256 * a + b := w0 _ (by omega) (by omega)
  have g3 : wrap64 (256 * (256 * a + b)) = 256 * (256 * a + b) := w0 _ (by omega) (by omega)
  have g4 : wrap64 (256 * (256 * a + b) + c) = 256 * (256 * a + b) + c := w0 _ (by omega) (by omega)
  have g5 : wrap64 (256 * (256 * (256 * a + b) + c)) = 256 * (256 * (256 * a + b) + c) := w0 _ (by omega) (by omega)
  have g6 : wrap64 (256 * (256 * (256 * a + b) + c) + d) = 256 * (256 * (256 * a + b) + c) + d := w0 _ (by omega) (by omega)
  simp [halftoneref02_Number.f, halftoneref02_Number.l0, rd, e1, e2, e3, e4, f0, ra, rb, rc, rd', g1, g2, g3, g4, g5, g6]
  show _ = ((a * 256 + b) * 256 + c) * 256 + d
  omega
theorem beN_nonneg {l : List Int} (h : l.length = 4) (hb : Bytes l) : 0 ≤ beN l ∧ beN l < 4294967296 := by
  have := beN_range hb h
  omega
theorem letters_kind {kd : List Int} (h : kd.length = 4) (hb : Bytes kd) : kindB (strOfNums kd) = kd.all letB := by
  unfold kindB
  have h1 : (strOfNums kd).size = 4 := by rw [Go.strOfNums_size, h]
  have h2 : bytesOf (strOfNums kd) = kd := by
    unfold bytesOf strOfNums
    simp only [List.map_map]
    conv => rhs; rw [← List.map_id kd]
    refine List.map_congr_left (fun x hx => ?_)
    have := hb x hx
    simp
    omega
  rw [h1, h2]
  rfl
theorem strOfNums_bytes {kd : List Int} (hb : Bytes kd) : bytesOf (strOfNums kd) = kd := by
  unfold bytesOf strOfNums
  simp only [List.map_map]
  conv => rhs; rw [← List.map_id kd]
  refine List.map_congr_left (fun x hx => ?_)
  have := hb x hx
  simp
  omega
theorem ev_kind {kd : List Int} (h : kd.length = 4) (hb : Bytes kd) : Ev (fun k => halftoneref11_Kind.f k (strOfNums kd)) (kd.all letB) := by
  rw [← letters_kind h hb]
  have h1 : (strOfNums kd).size = 4 := by rw [Go.strOfNums_size, h]
  exact ⟨5, fun k hk => kind_f _ (by omega) k (by omega)⟩
theorem ev_const {α : Type} {g : Nat → Option α} {r : α} (h : ∀ k, g (k + 1) = some r) : Ev g r := Ev.step (f := fun _ => some r) h (Ev.now r)
theorem num_K {l : List Int} (h : l.length = 4) (hb : Bytes l) : ∃ K, ∀ k, K ≤ k → halftoneref02_Number.f k l = some (beN l) := ev_num h hb
theorem kind_K {kd : List Int} (h : kd.length = 4) (hb : Bytes kd) : ∃ K, ∀ k, K ≤ k → halftoneref11_Kind.f k (strOfNums kd) = some (kd.all letB) := ev_kind h hb
theorem rof_K {l : List Int} (hb : Bytes l) (hn : l.length < 9223372036854775807) : ∃ K, ∀ k, K ≤ k → halftoneref03_Of.f k l = some (moreN 0 l) := ev_rof l hb hn
section
variable {out : List S46} {t u sz kd dt sm : List Int}
theorem tail0 : Ev (fun k => halftoneref11_Of.l1 k [] out) (out, 0) := ev_const fun k => by
  rw [halftoneref11_Of.l1, if_neg (by simp)]
theorem tail1 (h0 : 0 < t.length) (h1 : t.length < 4) : Ev (fun k => halftoneref11_Of.l1 k t out) (out, 2) := ev_const fun k => by
  rw [halftoneref11_Of.l1, if_pos (by omega), if_pos (by omega)]
theorem take4 (hs : sz.length = 4) : (sz ++ u).take 4 = sz := List.take_left' hs
theorem tail2 (hs : sz.length = 4) (hb : Bytes sz) (hx : 1048576 < beN sz) : Ev (fun k => halftoneref11_Of.l1 k (sz ++ u) out) (out, 9) := by
  have hl : (sz ++ u).length = 4 + u.length := by rw [List.length_append, hs]
  obtain ⟨K, h⟩ := num_K hs hb
  refine ⟨K + 1, fun k hk => ?_⟩
  obtain ⟨j, rfl⟩ : ∃ j, k = j + 1 := ⟨k - 1, by omega⟩
  show halftoneref11_Of.l1 (j + 1) _ _ = _
  rw [halftoneref11_Of.l1, if_pos (by omega), if_neg (by omega), if_pos (by omega), take4 hs, h j (by omega), Option.bind_some, if_pos hx]
theorem tail3 (hs : sz.length = 4) (hb : Bytes sz) (hx : beN sz ≤ 1048576) (hu : u.length < 4) : Ev (fun k => halftoneref11_Of.l1 k (sz ++ u) out) (out, 2) := by
  have hl : (sz ++ u).length = 4 + u.length := by rw [List.length_append, hs]
  obtain ⟨K, h⟩ := num_K hs hb
  refine ⟨K + 1, fun k hk => ?_⟩
  obtain ⟨j, rfl⟩ : ∃ j, k = j + 1 := ⟨k - 1, by omega⟩
  show halftoneref11_Of.l1 (j + 1) _ _ = _
  rw [halftoneref11_Of.l1, if_pos (by omega), if_neg (by omega), if_pos (by omega), take4 hs, h j (by omega), Option.bind_some, if_neg (by omega), if_pos (by omega)]
theorem take4' (hs : sz.length = 4) : (sz ++ kd ++ u).take 4 = sz := by rw [List.append_assoc]; exact take4 hs
theorem take48 (hs : sz.length = 4) (hk : kd.length = 4) : ((sz ++ kd ++ u).take 8).drop 4 = kd := by
  rw [List.take_left' (by rw [List.length_append, hs, hk]), List.drop_left' hs]
theorem tail4 (hs : sz.length = 4) (hb : Bytes sz) (hx : beN sz ≤ 1048576) (hk : kd.length = 4) (hkb : Bytes kd) (hn : kd.all letB = false) : Ev (fun k => halftoneref11_Of.l1 k (sz ++ kd ++ u) out) (out, 3) := by
  have hl : (sz ++ kd ++ u).length = 8 + u.length := by rw [List.length_append, List.length_append, hs, hk]
  obtain ⟨K, h⟩ := num_K hs hb
  obtain ⟨K2, h2⟩ := kind_K hk hkb
  refine ⟨K + K2 + 1, fun k hk' => ?_⟩
  obtain ⟨j, rfl⟩ : ∃ j, k = j + 1 := ⟨k - 1, by omega⟩
  show halftoneref11_Of.l1 (j + 1) _ _ = _
  rw [halftoneref11_Of.l1, if_pos (by omega), if_neg (by omega), if_pos (by omega), take4' hs, h j (by omega), Option.bind_some, if_neg (by omega), if_neg (by omega), if_pos (by omega), if_pos (by omega), take48 hs hk, Option.bind_some, h2 j (by omega), Option.bind_some, hn, if_neg (by decide)]
theorem mn_le (a b : Int) : mn a b = if a ≤ b then a else b := by
  unfold mn
  split <;> split <;> omega
/-- the rows behind the kind -/
theorem tail5 {n : Nat} (hs : sz.length = 4) (hb : Bytes sz) (hz : beN sz = n) (hx : n ≤ 1048576) (hk : kd.length = 4) (hkb : Bytes kd) (hn : kd.all letB = true) (hu : u.length < n + 4) (ho : out.length ≤ 1000000) (hul : u.length ≤ 1000000) : Ev (fun k => halftoneref11_Of.l1 k (sz ++ kd ++ u) out) (out ++ [⟨strOfNums kd, n, u.take n, false⟩], 2) := by
  have hl : (sz ++ kd ++ u).length = 8 + u.length := by rw [List.length_append, List.length_append, hs, hk]
  have hl8 : (sz ++ kd).length = 8 := by rw [List.length_append, hs, hk]
  obtain ⟨K, h⟩ := num_K hs hb
  obtain ⟨K2, h2⟩ := kind_K hk hkb
  rw [hz] at h
  have w8 : wrap64 (8 + (n : Int)) = 8 + n := by unfold wrap64; omega
  have w12 : wrap64 (12 + (n : Int)) = 12 + n := by unfold wrap64; omega
  have hm : (mn ((8 + u.length : Nat) : Int) (8 + n)).toNat = 8 + min u.length n := by
    rw [mn_le]
    split <;> omega
  have hm1 : 8 ≤ mn ((8 + u.length : Nat) : Int) (8 + n) ∧ mn ((8 + u.length : Nat) : Int) (8 + n) ≤ ((8 + u.length : Nat) : Int) := by
    rw [mn_le]
    split <;> omega
  have hd : ((sz ++ kd ++ u).take (8 + min u.length n)).drop 8 = u.take n := by
    rw [List.take_append, hl8, List.take_of_length_le (by omega), List.drop_left' hl8]
    rw [show 8 + min u.length n - 8 = min u.length n by omega, ← List.take_take]
    rw [List.take_of_length_le (by rw [List.length_take]; omega)]
  refine ⟨K + K2 + 1, fun k hk' => ?_⟩
  obtain ⟨j, rfl⟩ : ∃ j, k = j + 1 := ⟨k - 1, by omega⟩
  show halftoneref11_Of.l1 (j + 1) _ _ = _
  rw [halftoneref11_Of.l1, if_pos (by omega), if_neg (by omega), if_pos (by omega), take4' hs, h j (by omega), Option.bind_some, if_neg (by omega), if_neg (by omega), if_pos (by omega), if_pos (by omega), take48 hs hk, Option.bind_some, h2 j (by omega), Option.bind_some, hn, if_pos rfl, w8, w12, hl, if_pos hm1.1, if_pos hm1.2, hm, hd, Option.bind_some, Option.bind_some, List.nil_append]
  rw [if_pos (by rw [List.length_take]; simp; omega), if_pos (by omega), Option.bind_some, if_pos (by omega)]
theorem w8_ {n : Nat} (h : n ≤ 1048576) : wrap64 (8 + (n : Int)) = 8 + n := by unfold wrap64; omega
theorem w12_ {n : Nat} (h : n ≤ 1048576) : wrap64 (12 + (n : Int)) = 12 + n := by unfold wrap64; omega
theorem mn_8 (n q : Nat) : mn ((12 + n + q : Nat) : Int) (8 + n) = 8 + n := by
  rw [mn_le]
  split <;> omega
theorem wl_ (y : S46) (ho : out.length ≤ 1000000) : wrap64 (((out ++ [y]).length : Int) - 1) = (out.length : Int) := by
  rw [List.length_append, List.length_singleton]
  unfold wrap64
  omega
theorem tail_core {x0 kdt sz kd dt sm u : List Int} {n q j : Nat} {B M : Int} (hx : n ≤ 1048576) (hq : q ≤ 1000000) (hl : x0.length = 12 + n + q) (ho : out.length ≤ 1000000) (hd4 : x0.take 4 = sz) (h : halftoneref02_Number.f j sz = some (n : Int)) (hd5 : (x0.take 8).drop 4 = kd) (h2 : halftoneref11_Kind.f j (strOfNums kd) = some true)
    (hd0 : (x0.take (8 + n)).drop 8 = dt) (hdl : dt.length = n) (hd1 : (x0.take (12 + n)).drop (8 + n) = sm) (h3 : halftoneref02_Number.f j sm = some B) (hB : 0 ≤ B ∧ B < 4294967296) (hd2 : (x0.take (8 + n)).drop 4 = kdt) (h4 : halftoneref03_Of.f j kdt = some M) (hd3 : x0.drop (12 + n) = u) :
    halftoneref11_Of.l1 (j + 1) x0 out = if B = M then halftoneref11_Of.l1 j u (out ++ [⟨strOfNums kd, n, dt, true⟩]) else some (out ++ [⟨strOfNums kd, n, dt, false⟩], 4) := by
  have w8 := w8_ hx
  have w12 := w12_ hx
  have hmn := mn_8 n q
  have hol := wl_ (⟨strOfNums kd, n, dt, false⟩ : S46) ho
  have t8 : ((8 : Int) + (n : Int)).toNat = 8 + n := by omega
  have t12 : ((12 : Int) + (n : Int)).toNat = 12 + n := by omega
  rw [halftoneref11_Of.l1, if_pos (by omega), if_neg (by omega), if_pos (by omega), hd4, h, Option.bind_some, if_neg (by omega), if_neg (by omega), if_pos (by omega), if_pos (by omega), hd5, Option.bind_some, h2, Option.bind_some, if_pos rfl, w8, w12, hl, hmn, if_pos (by omega), if_pos (by omega), t8, t12, hd0, Option.bind_some, Option.bind_some, List.nil_append,
    if_pos (by rw [hdl]; simp; omega), if_pos (by omega), Option.bind_some, if_neg (by omega), if_pos (by omega), if_pos (by omega), if_pos (by omega), hd1, h3, Option.bind_some, if_pos (by omega), if_pos (by omega), hd2, h4, Option.bind_some, Int.emod_eq_of_lt hB.1 hB.2]
  by_cases he : B = M
  · rw [if_pos he, if_pos he, hol, if_pos (by omega), if_pos (by rw [List.length_append, List.length_singleton]; omega), if_pos (by omega), hd3]
    congr 1
    have hr : rd_T46 (out ++ [(⟨strOfNums kd, n, dt, false⟩ : S46)]) (out.length : Int) = ⟨strOfNums kd, n, dt, false⟩ := by
      unfold rd_T46
      rw [Int.toNat_natCast, List.getD_eq_getElem?_getD]
      simp
    rw [hr, Int.toNat_natCast]
    simp
  · rw [if_neg he, if_neg he]
/-- a whole chunk ahead -/
theorem tail_K {n : Nat} (hs : sz.length = 4) (hb : Bytes sz) (hz : beN sz = n) (hx : n ≤ 1048576) (hk : kd.length = 4) (hkb : Bytes kd) (hn : kd.all letB = true) (hd : dt.length = n) (hdb : Bytes dt) (hm : sm.length = 4) (hmb : Bytes sm) (ho : out.length ≤ 1000000) (hul : u.length ≤ 1000000) :
    ∃ K, ∀ j, K ≤ j → halftoneref11_Of.l1 (j + 1) (sz ++ kd ++ dt ++ sm ++ u) out = if beN sm = moreN 0 (kd ++ dt) then halftoneref11_Of.l1 j u (out ++ [⟨strOfNums kd, n, dt, true⟩]) else some (out ++ [⟨strOfNums kd, n, dt, false⟩], 4) := by
  have hl : (sz ++ kd ++ dt ++ sm ++ u).length = 12 + n + u.length := by simp only [List.length_append, hs, hk, hd, hm]; omega
  have hl8 : (sz ++ kd).length = 8 := by rw [List.length_append, hs, hk]
  have hl8n : (sz ++ kd ++ dt).length = 8 + n := by rw [List.length_append, hl8, hd]
  have hl12 : (sz ++ kd ++ dt ++ sm).length = 12 + n := by rw [List.length_append, hl8n, hm]; omega
  have hkd : (kd ++ dt).length < 9223372036854775807 := by rw [List.length_append]; omega
  obtain ⟨K, h⟩ := num_K hs hb
  obtain ⟨K2, h2⟩ := kind_K hk hkb
  obtain ⟨K3, h3⟩ := num_K hm hmb
  obtain ⟨K4, h4⟩ := rof_K (hkb.app hdb) hkd
  rw [hz] at h
  rw [hn] at h2
  refine ⟨K + K2 + K3 + K4, fun j hj => ?_⟩
  have j1 : K ≤ j := Nat.le_trans (Nat.le_trans (Nat.le_trans (Nat.le_add_right _ _) (Nat.le_add_right _ _)) (Nat.le_add_right _ _)) hj
  have j2 : K2 ≤ j := Nat.le_trans (Nat.le_trans (Nat.le_trans (Nat.le_add_left _ _) (Nat.le_add_right _ _)) (Nat.le_add_right _ _)) hj
  have j3 : K3 ≤ j := Nat.le_trans (Nat.le_trans (Nat.le_add_left _ _) (Nat.le_add_right _ _)) hj
  have j4 : K4 ≤ j := Nat.le_trans (Nat.le_add_left _ _) hj
  refine tail_core hx hul hl ho ?_ (h j j1) ?_ (h2 j j2) ?_ hd ?_ (h3 j j3) (beN_nonneg hm hmb) ?_ (h4 j j4) ?_
  · simp only [List.append_assoc]
    exact take4 hs
  · rw [List.append_assoc, List.append_assoc, List.take_left' hl8, List.drop_left' hs]
  · rw [List.append_assoc, List.take_left' hl8n, List.drop_left' hl8]
  · rw [List.take_left' hl12, List.drop_left' hl8n]
  · rw [List.append_assoc, List.take_left' hl8n, List.append_assoc, List.drop_left' hs]
  · exact List.drop_left' hl12
end
/-- whole chunks, one behind the other -/
inductive Done : List Int → List S46 → Prop
  | nil : Done [] []
  | snoc {D : List Int} {l : List S46} {sz kd dt sm : List Int} {n : Nat} : Done D l → sz.length = 4 → Bytes sz → beN sz = n → n ≤ 1048576 → kd.length = 4 → Bytes kd → kd.all letB = true → dt.length = n → Bytes dt → sm.length = 4 → Bytes sm → beN sm = moreN 0 (kd ++ dt) → Done (D ++ sz ++ kd ++ dt ++ sm) (l ++ [⟨strOfNums kd, n, dt, true⟩])
theorem Done.len {D : List Int} {l : List S46} (h : Done D l) : l.length ≤ D.length := by
  induction h with
  | nil => exact Nat.le_refl _
  | snoc hD h1 _ _ _ h2 _ _ h3 _ h4 _ _ ih => simp only [List.length_append, List.length_singleton]; omega
theorem Done.ended {D : List Int} {l : List S46} (h : Done D l) : ∀ x ∈ l, x.f3 = true := by
  induction h with
  | nil => simp
  | snoc hD h1 _ _ _ h2 _ _ h3 _ h4 _ _ ih =>
    intro x hx
    rcases List.mem_append.1 hx with h | h
    · exact ih x h
    · rw [List.mem_singleton] at h
      rw [h]
theorem done_of {D : List Int} {l : List S46} (h : Done D l) : ∀ (u : List Int) (R : List S46 × Int), D.length + u.length ≤ 1000000 → Ev (fun k => halftoneref11_Of.l1 k u l) R → Ev (fun k => halftoneref11_Of.l1 k (D ++ u) []) R := by
  induction h with
  | nil => intro u R _ hR; exact hR
  | @snoc D l sz kd dt sm n hD h1 h2 h3 h4 h5 h6 h7 h8 h9 h10 h11 h12 ih =>
    intro u R hl hR
    have hl2 := hD.len
    simp only [List.length_append] at hl
    have h := ih (sz ++ kd ++ dt ++ sm ++ u) R (by simp only [List.length_append]; omega) ?_
    · simpa only [List.append_assoc] using h
    · obtain ⟨K, hK⟩ := tail_K (out := l) (u := u) h1 h2 h3 h4 h5 h6 h7 h8 h9 h10 h11 (by omega) (by omega)
      obtain ⟨K2, hK2⟩ := hR
      refine ⟨K + K2 + 1, fun k hk => ?_⟩
      obtain ⟨j, rfl⟩ : ∃ j, k = j + 1 := ⟨k - 1, by omega⟩
      show halftoneref11_Of.l1 (j + 1) _ _ = _
      rw [hK j (by omega), if_pos h12]
      exact hK2 j (by omega)
/-- the eight bytes, whole -/
theorem of_first (t : List Int) (R : List S46 × Int) (h : Ev (fun k => halftoneref11_Of.l1 k t []) R) : Ev (fun k => halftoneref11_Of.f k (firstL ++ t)) R := by
  obtain ⟨K, hK⟩ := h
  refine ⟨K + 9, fun k hk => ?_⟩
  obtain ⟨j, rfl⟩ : ∃ j, k = j + 9 := ⟨k - 9, by omega⟩
  have hw : ∀ i : Nat, i < 8 → wrap64 ((i : Int) + 1) = ((i + 1 : Nat) : Int) := fun i _ => wrap_nat (by omega)
  have step : ∀ (i m : Nat), i < 8 → halftoneref11_Of.l0 (m + 1) (firstL ++ t) firstL 8 (i : Int) = halftoneref11_Of.l0 m (firstL ++ t) firstL 8 ((i + 1 : Nat) : Int) := by
    intro i m hi
    have hl : (firstL ++ t).length = 8 + t.length := by rw [List.length_append]; rfl
    have hf : (firstL.length : Int) = 8 := rfl
    have hr : rd (firstL ++ t) (i : Int) = rd firstL (i : Int) := by
      unfold rd
      rw [Int.toNat_natCast, List.getD_eq_getElem?_getD, List.getElem?_append_left (by show i < 8; omega), ← List.getD_eq_getElem?_getD]
    rw [halftoneref11_Of.l0, if_pos (by omega), if_pos (by omega), if_pos (by omega), if_neg (by omega), if_pos (by omega), if_pos hr, hw i hi]
  show halftoneref11_Of.l0 (j + 9) (firstL ++ t) firstL 8 ((0 : Nat) : Int) = _
  rw [step 0 _ (by omega), step 1 _ (by omega), step 2 _ (by omega), step 3 _ (by omega), step 4 _ (by omega), step 5 _ (by omega), step 6 _ (by omega), step 7 _ (by omega)]
  have hl : (firstL ++ t).length = 8 + t.length := by rw [List.length_append]; rfl
  rw [halftoneref11_Of.l0, if_neg (by decide), if_pos (by omega), List.drop_left' (show firstL.length = 8 from rfl)]
  exact hK j (by omega)
theorem of_upto (x0 : List Int) (n : Nat) (hn : n ≤ 8) (hp : ∀ i, i < n → i < x0.length ∧ x0.getD i 0 = firstL.getD i 0) (j : Nat) : ∀ (d i : Nat), i + d = n → halftoneref11_Of.l0 (j + d) x0 firstL 8 (i : Int) = halftoneref11_Of.l0 j x0 firstL 8 (n : Int)
  | 0, i, h => by
    obtain rfl : i = n := by omega
    rfl
  | d + 1, i, h => by
    obtain ⟨h1, h2⟩ := hp i (by omega)
    have hf : (firstL.length : Int) = 8 := rfl
    rw [← of_upto x0 n hn hp j d (i + 1) (by omega), show j + (d + 1) = (j + d) + 1 by omega, halftoneref11_Of.l0, if_pos (by omega), if_pos (by omega), if_pos (by omega), if_neg (by omega), if_pos (by omega), if_pos (by unfold rd; rw [Int.toNat_natCast]; exact h2), wrap_nat (by omega)]
theorem of_pre {c t : List Int} (h : c = firstL.take c.length) (hl : c.length < 8) : ∀ i, i < c.length → i < (c ++ t).length ∧ (c ++ t).getD i 0 = firstL.getD i 0 := by
  intro i hi
  refine ⟨by rw [List.length_append]; omega, ?_⟩
  have h1 : c[i]? = firstL[i]? := by
    conv => lhs; rw [h]
    rw [List.getElem?_take, if_pos hi]
  rw [List.getD_eq_getElem?_getD, List.getElem?_append_left hi, h1, ← List.getD_eq_getElem?_getD]
/-- the first ones of the eight, and no more -/
theorem of_short {c : List Int} (h : c = firstL.take c.length) (hl : c.length < 8) : Ev (fun k => halftoneref11_Of.f k c) ([], 2) := by
  refine ⟨c.length + 1, fun k hk => ?_⟩
  obtain ⟨j, rfl⟩ : ∃ j, k = (j + 1) + c.length := ⟨k - 1 - c.length, by omega⟩
  have hp := of_pre (t := []) h hl
  rw [List.append_nil] at hp
  have h2 := of_upto c c.length (by omega) hp (j + 1) c.length 0 (by omega)
  show halftoneref11_Of.l0 _ c firstL 8 ((0 : Nat) : Int) = _
  have hf : (firstL.length : Int) = 8 := rfl
  rw [h2, halftoneref11_Of.l0, if_pos (by omega), if_pos (by omega), if_pos (by omega), if_pos (by omega)]
/-- the first ones of the eight, and another one -/
theorem of_wrong {c t : List Int} {x : Int} (h : c = firstL.take c.length) (hl : c.length < 8) (hx : x ≠ firstL.getD c.length 0) : Ev (fun k => halftoneref11_Of.f k (c ++ x :: t)) ([], 3) := by
  refine ⟨c.length + 1, fun k hk => ?_⟩
  obtain ⟨j, rfl⟩ : ∃ j, k = (j + 1) + c.length := ⟨k - 1 - c.length, by omega⟩
  have h2 := of_upto (c ++ x :: t) c.length (by omega) (of_pre h hl) (j + 1) c.length 0 (by omega)
  have hlen : (c ++ x :: t).length = c.length + 1 + t.length := by rw [List.length_append, List.length_cons]; omega
  have hf : (firstL.length : Int) = 8 := rfl
  have hrx : rd (c ++ x :: t) (c.length : Int) = x := by
    unfold rd
    rw [Int.toNat_natCast, List.getD_eq_getElem?_getD]
    simp
  show halftoneref11_Of.l0 _ _ firstL 8 ((0 : Nat) : Int) = _
  rw [h2, halftoneref11_Of.l0, if_pos (by omega), if_pos (by omega), if_pos (by omega), if_neg (by omega), if_pos (by omega), hrx, if_neg (by unfold rd; rw [Int.toNat_natCast]; exact hx)]
end Go.Proofs.Ytapaodagnpaekaa.Lib
