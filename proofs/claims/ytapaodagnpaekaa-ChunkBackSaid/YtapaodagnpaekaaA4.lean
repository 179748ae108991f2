/- ChunkBack: the row (under way). -/
import Derived.Test.YtapaodagnpaekaaGd
import Derived.Test.YtapaodagnpaekaaVh
import Derived.BigQuiet
namespace Go.Proofs.Ytapaodagnpaekaa.Lib
open Go.RowKit Go.Proofs.YtapaodagnpaekaaW.PrintWords Go.Proofs.YtapaodagnpaekaaW.PrintLast Go.Proofs.YtapaodagnpaekaaW.PrintMore
set_option linter.unusedVariables false
set_option linter.unusedSimpArgs false
theorem str_bytes (s : ByteArray) : strOfNums (bytesOf s) = s := by
  unfold bytesOf strOfNums
  simp only [List.map_map]
  have h : s.data.toList.map ((fun n : Int => UInt8.ofNat n.toNat) ∘ fun b => (b.toNat : Int)) = s.data.toList := by
    conv => rhs; rw [← List.map_id s.data.toList]
    refine List.map_congr_left (fun x _ => ?_)
    simp
  apply ByteArray.ext
  apply Array.ext'
  simpa using h
theorem bytesOf_Bytes (s : ByteArray) : Bytes (bytesOf s) := fun x hx => by
  obtain ⟨b, _, rfl⟩ := List.mem_map.1 hx
  have := b.toNat_lt
  omega
/-- a chunk that may be packed -/
structure Ck (c : S40) : Prop where
  k : kindB c.f0 = true
  l : c.f1.length ≤ 5000
  b : Bytes c.f1
theorem Ck.kl {c : S40} (h : Ck c) : (bytesOf c.f0).length = 4 ∧ (bytesOf c.f0).all letB = true := by
  refine ⟨by rw [bytesOf_length]; exact kind_size h.k, ?_⟩
  have := h.k
  unfold kindB at this
  exact (Bool.and_eq_true _ _ ▸ this).2
def wantL (cs : List S40) : List S46 := cs.map fun c => ⟨c.f0, (c.f1.length : Int), c.f1, true⟩
theorem Ck.done {c : S40} (h : Ck c) {D : List Int} {l : List S46} (hD : Done D l) : Done (D ++ oneL c) (l ++ [⟨c.f0, (c.f1.length : Int), c.f1, true⟩]) := by
  obtain ⟨hk, ha⟩ := h.kl
  have hl := h.l
  have h1 := Done.snoc (n := c.f1.length) hD (be4_length (c.f1.length : Int)) (be4_bytes _) (beN_be4 (by omega) (by omega)) (by omega) hk (bytesOf_Bytes _) ha rfl h.b (be4_length (moreN 0 (bytesOf c.f0 ++ c.f1))) (be4_bytes _) (beN_be4 (moreN_range _ _).1 (moreN_range _ _).2)
  rw [str_bytes] at h1
  unfold oneL
  simpa only [List.append_assoc] using h1
theorem done_cs : ∀ (cs : List S40) (D : List Int) (l : List S46), (∀ c ∈ cs, Ck c) → Done D l → Done (D ++ cs.flatMap oneL) (l ++ wantL cs)
  | [], D, l, _, hD => by simpa [wantL] using hD
  | c :: cs, D, l, h, hD => by
    have := done_cs cs _ _ (fun x hx => h x (List.mem_cons_of_mem _ hx)) ((h c List.mem_cons_self).done hD)
    simpa [wantL, List.append_assoc] using this
/-- the first bytes of one chunk -/
theorem one_pre {c : S40} (h : Ck c) {D u : List Int} {l : List S46} (hD : Done D l) (hu : u = (oneL c).take u.length) (hl : u.length < (oneL c).length) (hb : D.length ≤ 900000) :
    ∃ l' f, (f = 0 ∨ f = 2) ∧ Ev (fun k => halftoneref11_Of.l1 k (D ++ u) []) (l', f) := by
  obtain ⟨hk, ha⟩ := h.kl
  have hc := h.l
  have hs : (be4 (c.f1.length : Int)).length = 4 := be4_length _
  have hol : (oneL c).length = 12 + c.f1.length := by unfold oneL; simp only [List.length_append, hs, hk, be4_length]; omega
  have hsb := be4_bytes (c.f1.length : Int)
  have hsv : beN (be4 (c.f1.length : Int)) = (c.f1.length : Int) := beN_be4 (by omega) (by omega)
  by_cases h0 : u.length = 0
  · obtain rfl := List.length_eq_zero_iff.1 h0
    exact ⟨l, 0, .inl rfl, done_of hD [] _ (by simp; omega) tail0⟩
  by_cases h4 : u.length < 4
  · exact ⟨l, 2, .inr rfl, done_of hD u _ (by omega) (tail1 (by omega) h4)⟩
  by_cases h8 : u.length < 8
  · have e : u = be4 (c.f1.length : Int) ++ (bytesOf c.f0 ++ c.f1 ++ be4 (moreN 0 (bytesOf c.f0 ++ c.f1))).take (u.length - 4) := by
      conv => lhs; rw [hu]
      unfold oneL
      rw [List.append_assoc, List.append_assoc, List.take_append, hs, List.take_of_length_le (by omega), List.append_assoc]
    have hv : u.length = 4 + ((bytesOf c.f0 ++ c.f1 ++ be4 (moreN 0 (bytesOf c.f0 ++ c.f1))).take (u.length - 4)).length := by
      conv => lhs; rw [e]
      rw [List.length_append, hs]
    rw [e]
    exact ⟨l, 2, .inr rfl, done_of hD _ _ (by rw [← e]; omega) (tail3 hs hsb (by omega) (by omega))⟩
  · have e : u = be4 (c.f1.length : Int) ++ bytesOf c.f0 ++ (c.f1 ++ be4 (moreN 0 (bytesOf c.f0 ++ c.f1))).take (u.length - 8) := by
      conv => lhs; rw [hu]
      unfold oneL
      rw [List.append_assoc (be4 _ ++ bytesOf c.f0), List.take_append, List.length_append, hs, hk, List.take_of_length_le (by rw [List.length_append, hs, hk]; omega)]
    have hv : u.length = 8 + ((c.f1 ++ be4 (moreN 0 (bytesOf c.f0 ++ c.f1))).take (u.length - 8)).length := by
      conv => lhs; rw [e]
      rw [List.length_append, List.length_append, hs, hk]
    have hln := hD.len
    rw [e]
    exact ⟨_, 2, .inr rfl, done_of hD _ _ (by rw [← e]; omega) (tail5 (n := c.f1.length) hs hsb hsv (by omega) hk (bytesOf_Bytes _) ha (by omega) (by omega) (by omega))⟩
/-- the first bytes of some chunks -/
theorem cs_pre : ∀ (cs : List S40) (D u : List Int) (l : List S46), (∀ c ∈ cs, Ck c) → Done D l → u = (cs.flatMap oneL).take u.length → u.length ≤ (cs.flatMap oneL).length → D.length + (cs.flatMap oneL).length ≤ 900000 →
    ∃ l' f, (f = 0 ∨ f = 2) ∧ Ev (fun k => halftoneref11_Of.l1 k (D ++ u) []) (l', f)
  | [], D, u, l, _, hD, _, hl, hb => by
    obtain rfl := List.length_eq_zero_iff.1 (Nat.le_zero.1 hl)
    exact ⟨l, 0, .inl rfl, done_of hD [] _ (by simp at hb ⊢; omega) tail0⟩
  | c :: cs, D, u, l, h, hD, hu, hl, hb => by
    rw [List.flatMap_cons] at hu hl hb
    rw [List.length_append] at hl hb
    by_cases h1 : u.length < (oneL c).length
    · rw [List.take_append, Nat.sub_eq_zero_of_le (by omega : u.length ≤ (oneL c).length), List.take_zero, List.append_nil] at hu
      exact one_pre (h c List.mem_cons_self) hD hu h1 (by omega)
    · rw [List.take_append, List.take_of_length_le (by omega)] at hu
      obtain ⟨v, hv⟩ : ∃ v, (cs.flatMap oneL).take (u.length - (oneL c).length) = v := ⟨_, rfl⟩
      have hv2 : v.length = u.length - (oneL c).length := by rw [← hv, List.length_take]; omega
      rw [hv] at hu
      rw [hu, ← List.append_assoc]
      exact cs_pre cs (D ++ oneL c) v _ (fun x hx => h x (List.mem_cons_of_mem _ hx)) ((h c List.mem_cons_self).done hD) (by rw [hv2, hv]) (by omega) (by rw [List.length_append]; omega)
theorem pack_pre {cs : List S40} (h : ∀ c ∈ cs, Ck c) (hb : (packL cs).length ≤ 800000) (u : List Int) (hu : u = (packL cs).take u.length) (hl : u.length ≤ (packL cs).length) : ∃ l' f, (f = 0 ∨ f = 2) ∧ Ev (fun k => halftoneref11_Of.f k u) (l', f) := by
  have e8 : firstL.length = 8 := rfl
  unfold packL at hu hl hb
  rw [List.length_append, e8] at hl hb
  by_cases h8 : u.length < 8
  · rw [List.take_append, e8, Nat.sub_eq_zero_of_le (by omega : u.length ≤ 8), List.take_zero, List.append_nil] at hu
    exact ⟨[], 2, .inr rfl, of_short hu h8⟩
  · rw [List.take_append, e8, List.take_of_length_le (by omega)] at hu
    obtain ⟨v, hv⟩ : ∃ v, (cs.flatMap oneL).take (u.length - 8) = v := ⟨_, rfl⟩
    have hv2 : v.length = u.length - 8 := by rw [← hv, List.length_take]; omega
    rw [hv] at hu
    rw [hu]
    obtain ⟨l', f, hf, hE⟩ := cs_pre cs [] v [] h Done.nil (by rw [hv2, hv]) (by omega) (by rw [List.length_nil]; omega)
    exact ⟨l', f, hf, of_first v _ hE⟩
theorem pack_all {cs : List S40} (h : ∀ c ∈ cs, Ck c) (hb : (packL cs).length ≤ 800000) : Ev (fun k => halftoneref11_Of.f k (packL cs)) (wantL cs, 0) := by
  unfold packL at hb ⊢
  rw [List.length_append] at hb
  refine of_first _ _ ?_
  have hD := done_cs cs [] [] h Done.nil
  rw [List.nil_append, List.nil_append] at hD
  have := done_of hD [] _ (by rw [List.length_nil]; omega) tail0
  rwa [List.append_nil] at this
theorem ev_one_value {α : Type} {g : Nat → Option α} {a b : α} (h : Ev g a) (h' : Ev g b) : a = b := by
  obtain ⟨K, hK⟩ := h
  obtain ⟨K', hK'⟩ := h'
  exact Option.some.inj ((hK (K + K') (by omega)).symm.trans (hK' (K + K') (by omega)))
/-- what ChunkBack's loop keeps: c read, b to come -/
structure BackInv (cs : List S40) (r : RS) (c b : List Int) (l : List S46) : Prop where
  e : r.e = 0
  j : J r c l
  q : Rest r
  cb : c ++ b = packL cs
  n : l.length ≤ c.length
  t : totS l ≤ c.length
theorem BackInv.new (cs : List S40) : BackInv cs RS.new [] (packL cs) [] :=
  ⟨rfl, J.j0 rfl (by decide) rfl, ⟨fun _ => by decide, fun h => absurd h (by decide)⟩, List.nil_append _, by simp, by simp [totS]⟩
theorem j_len {r : RS} {c : List Int} {l : List S46} (h : J r c l) : l.length ≤ c.length := by
  have e8 : firstL.length = 8 := rfl
  cases h with
  | j0 _ _ _ => exact Nat.zero_le _
  | j1 _ hD _ _ => have := hD.len; simp only [List.length_append]; omega
  | j2 _ hD _ _ _ _ _ _ => have := hD.len; simp only [List.length_append]; omega
  | j3 _ _ hD _ _ _ _ _ => have := hD.len; simp only [List.length_append, List.length_singleton]; omega
  | j4 _ hD _ _ _ _ _ _ => have := hD.len; simp only [List.length_append, List.length_singleton]; omega
theorem BackInv.push {cs : List S40} {r : RS} {c b : List Int} {l : List S46} (hc : ∀ x ∈ cs, Ck x) (hb : (packL cs).length ≤ 800000) (hB : Bytes (packL cs)) (h : BackInv cs r c b l) (p : List Int) (b' : List Int) (hp : b = p ++ b') (hp6 : p.length ≤ 300) :
    ∃ R psF l', runM 700 r p [] = some (R, psF) ∧ gathM l psF = some l' ∧ BackInv cs R (c ++ p) b' l' ∧ psF.length ≤ 700 := by
  have hcb := h.cb
  have hpb : Bytes p := fun x hx => hB x (by rw [← hcb, hp]; simp [hx])
  have hlen : c.length + p.length + b'.length ≤ 800000 := by rw [← hcb, hp, List.length_append, List.length_append] at hb; omega
  obtain ⟨R, psF, h1, l', h2, h3⟩ := run_ok (l0 := l) 700 r c p l [] h.j ⟨rfl, fun _ i p e => by simp at e, fun _ i p e => by simp at e⟩ h.e hpb (by omega) (by unfold mu; split <;> split <;> omega)
  obtain ⟨b1, b2, b3⟩ := run_b 700 r p [] R psF h1
  obtain ⟨g1, g2⟩ := gath_b psF l l' h2
  have b2' : totP psF ≤ p.length := by simpa [totP] using b2
  simp only [List.length_nil] at b1
  have hcp : c ++ p = (packL cs).take (c ++ p).length := by
    rw [← hcb, hp, ← List.append_assoc, List.take_left' rfl]
  have ht := h.t
  rcases h3 with ⟨e0, j, q⟩ | ⟨e0, hE⟩
  · exact ⟨R, psF, l', h1, h2, ⟨e0, j, q, by rw [List.append_assoc, ← hp]; exact hcb, j_len j, by rw [List.length_append]; omega⟩, by omega⟩
  · obtain ⟨l2, f, hf, hE2⟩ := pack_pre hc hb (c ++ p) hcp (by rw [← hcb, hp]; simp only [List.length_append]; omega)
    have e := congrArg Prod.snd (ev_one_value hE hE2)
    have e1 : R.e = f := e
    have n2 := b3 (by rw [h.e]; decide)
    rcases hf with rfl | rfl
    · exact absurd e1 e0
    · exact absurd e1 n2
theorem BackInv.last {cs : List S40} {r : RS} {c : List Int} {l : List S46} (hc : ∀ x ∈ cs, Ck x) (hb : (packL cs).length ≤ 800000) (h : BackInv cs r c [] l) : betB r = true ∧ l = wantL cs := by
  have hcb := h.cb
  rw [List.append_nil] at hcb
  have hE := rest_of h.j h.q (by rw [hcb]; omega)
  rw [hcb] at hE
  have e := ev_one_value hE (pack_all hc hb)
  have e1 : l = wantL cs := congrArg Prod.fst e
  have e2 : (if r.st = 1 ∧ r.held.length = 0 then (0 : Int) else 2) = 0 := congrArg Prod.snd e
  refine ⟨?_, e1⟩
  by_cases hs : r.st = 1 ∧ r.held.length = 0
  · unfold betB
    rw [h.e, hs.1, hs.2]
    rfl
  · rw [if_neg hs] at e2
    exact absurd e2 (by decide)
attribute [local go_sem] max2_int min2_int max_two min_two max_three min_three max_four min_four
set_option linter.unusedVariables false
set_option linter.unusedSimpArgs false
def lenV : Value → Nat
  | .slice _ n _ => n
  | _ => 0
def lenS (cs : List S40) : Nat := (cs.map fun c => c.f1.length).sum
theorem lenS_snoc (cs : List S40) (t : Nat) (h : t < cs.length) : lenS (cs.take (t + 1)) = lenS (cs.take t) + (cs.getD t z40).f1.length := by
  unfold lenS
  rw [List.take_succ_eq_append_getElem h, List.map_append, List.sum_append, List.getD_eq_getElem?_getD, List.getElem?_eq_getElem h]
  simp
theorem push_back {w0 W : World} {B n0 g : Nat} {hv v4 v5 : Value} {r R : RS} {all part : List Int} {fs : List Sq} {l : List S46} {psF : List PS} {A9 : Option Addr} {c9 m : Nat} (h : LI W B n0 W.heap.size g hv v4 v5 r all fs l) (hB : B ≤ W.heap.size) (hC : Kd.C (Kd.int .u8) w0 A9 m part) (hw : Below w0.heap.size w0 W) (hwB : w0.heap.size ≤ B) (hmc : m ≤ c9) (hby : Bytes part) (hm : part.length = m) (hm6 : m ≤ 300) (he : r.e = 0) (hrun : runM 700 r part [] = some (R, psF)) :
    Calls Try.prog 10 #[.pointer (some ⟨g, 0, none⟩), .slice A9 m c9] W fun e w' => ∃ hv' Ap N cp pcs, e = .returned (.tuple #[.slice Ap N cp, .int .i64 R.e]) ∧ LI w' B n0 W.heap.size g hv' v4 v5 R all fs l ∧ Pcs w' W.heap.size hv' (.slice Ap N cp) pcs psF ∧ Below B W w' ∧ W.heap.size ≤ w'.heap.size := by
  refine (push_walk h.rd hB h.ok he A9 m c9 part hm hmc (Kd.C_kept_came (Kd.heap_int _) hC hw (fun k hk => Nat.le_trans hwB (h.rd.lt k hk).1)) hby (by omega) 700 (by omega) hrun).mono ?_
  rintro e w' ⟨hv', ov, pcs, rfl, P⟩
  obtain ⟨Ap, cp, rfl⟩ := Kd.R_slice P.out
  exact ⟨hv', Ap, _, cp, pcs, rfl, h.push P.kp P.rd P.ok P.hvb, ⟨P.out, P.dat⟩, P.bl, P.kp.1⟩
theorem OutV.reads {W : World} {base : Nat} {A : Option Addr} {n c : Nat} {xs : List Int} (h : OutV W base (.slice A n c) xs) (hn : xs.length = n) : n ≤ c ∧ Kd.C (Kd.int .u8) W A n xs := by
  subst hn
  rcases h with h | ⟨g, e, h⟩
  · exact ⟨(Kd.R_reads' h).2.1, (Kd.R_reads' h).2.2⟩
  · injection e with e1 e2 e3
    subst e1 e3
    exact ⟨Nat.le_refl _, h⟩
theorem min_nat {nb : Nat} {sz : Int} (h : 0 ≤ sz ∧ sz ≤ 255) (hn : 0 < nb) (hb : nb ≤ 100000) : ∃ mm : Nat, (if 1 + sz < (nb : Int) then 1 + sz else (nb : Int)) = (mm : Int) ∧ 0 < mm ∧ mm ≤ 256 ∧ mm ≤ nb := by
  split
  · exact ⟨(1 + sz).toNat, by omega, by omega, by omega, by omega⟩
  · exact ⟨nb, rfl, by omega, by omega, Nat.le_refl _⟩
theorem packL_bytes {cs : List S40} (h : Few cs) : Bytes (packL cs) := by
  intro x hx
  rcases List.mem_append.1 hx with h1 | h1
  · simp [firstL] at h1
    omega
  · obtain ⟨c, hc, hx2⟩ := List.mem_flatMap.1 h1
    unfold oneL at hx2
    simp only [List.mem_append] at hx2
    rcases hx2 with ((h2 | h2) | h2) | h2
    · exact be4_bytes _ x h2
    · exact bytesOf_Bytes _ x h2
    · exact h.b c hc x h2
    · exact be4_bytes _ x h2
theorem flatC_len : ∀ (cs : List S40), (∀ c ∈ cs, Ck c) → (cs.flatMap oneL).length = 12 * cs.length + lenS cs
  | [], _ => by simp [lenS]
  | c :: cs, h => by
    have h1 := flatC_len cs (fun x hx => h x (List.mem_cons_of_mem _ hx))
    have h2 : (oneL c).length = 12 + c.f1.length := by unfold oneL; simp only [List.length_append, be4_length, (h c List.mem_cons_self).kl.1]; omega
    rw [List.flatMap_cons, List.length_append, h1, h2, List.length_cons]
    have h3 : lenS (c :: cs) = c.f1.length + lenS cs := by simp [lenS]
    omega
theorem packL_len {cs : List S40} (h : Few cs) (hk : ∀ c ∈ cs, Ck c) : (packL cs).length ≤ 7000 := by
  have h1 := flatC_len cs hk
  have h2 := h.n
  have h3 : lenS cs ≤ 5000 := h.s
  have h4 : firstL.length = 8 := rfl
  unfold packL
  rw [List.length_append]
  omega
/-- the chunks that were packed, as they lie -/
structure Wnt (W : World) (B : Nat) (v : Value) (fs : List Sq) (l : List S46) (w0 : World) : Prop where
  row : Kd.R kq 46 W B (fun _ => True) v fs
  len : fs.length = l.length
  at_ : ∀ j, j < l.length → (fs.getD j zq).kind = (l.getD j z46).f0 ∧ (fs.getD j zq).size = (l.getD j z46).f1 ∧ (fs.getD j zq).en = (l.getD j z46).f3 ∧ (fs.getD j zq).n = (l.getD j z46).f2.length ∧ (l.getD j z46).f2.length ≤ (fs.getD j zq).c ∧ Kd.C (Kd.int .u8) w0 (fs.getD j zq).A (l.getD j z46).f2.length (l.getD j z46).f2
theorem Wnt.reads {W w0 : World} {B : Nat} {v : Value} {fs : List Sq} {l : List S46} (h : Wnt W B v fs l w0) (hb : Below w0.heap.size w0 W) : ∃ A c, v = .slice A l.length c ∧ l.length ≤ c ∧ Kd.C k46 W A l.length l := by
  obtain ⟨A, c, rfl, hc, hC⟩ := Kd.R_reads h.row
  rw [h.len] at hc hC
  refine ⟨A, c, by rw [h.len], hc, rfl, hC.2.1, fun hn => ?_⟩
  obtain ⟨ad, e, hcell⟩ := hC.2.2 hn
  refine ⟨ad, e, fun j p hj => ?_⟩
  have hjl := (List.getElem?_eq_some_iff.1 hj).1
  have hjf : j < fs.length := by rw [h.len]; exact hjl
  obtain ⟨cs, hlen, hK, hcs⟩ := hcell j fs[j] (List.getElem?_eq_getElem hjf)
  obtain ⟨a, b, c', d1, d2, d3⟩ := h.at_ j hjl
  have hp : l.getD j z46 = p := by rw [List.getD_eq_getElem?_getD, hj]; rfl
  have hf : fs.getD j zq = fs[j] := by rw [List.getD_eq_getElem?_getD, List.getElem?_eq_getElem hjf]; rfl
  rw [hp, hf] at a b c' d1 d2 d3
  refine ⟨cs, hlen, ?_, hcs⟩
  obtain ⟨_, _, rfl, rfl, ⟨_, _, rfl, rfl, ⟨_, _, rfl, rfl, rfl⟩⟩⟩ := hK
  have h9 := k46_mk W p d2 (Kd.C_below d3 hb)
  rw [← d1, ← a, ← b, ← c'] at h9
  exact h9
theorem Wnt.push {W W1 w0 : World} {B : Nat} {v v1 : Value} {fs : List Sq} {l : List S46} {s : ByteArray} {d : List Int} {A : Option Addr} {m c : Nat} (h : Wnt W B v fs l w0) (hr : Kd.R kq 46 W1 B (fun _ => True) v1 (fs ++ [⟨s, (m : Int), A, m, c, true⟩])) (hm : d.length = m) (hc : m ≤ c) (hC : Kd.C (Kd.int .u8) w0 A m d) : Wnt W1 B v1 (fs ++ [⟨s, (m : Int), A, m, c, true⟩]) (l ++ [⟨s, (m : Int), d, true⟩]) w0 := by
  subst hm
  refine ⟨hr, by simp [h.len], fun j hj => ?_⟩
  by_cases hlt : j < l.length
  · have e1 : (fs ++ [(⟨s, (d.length : Int), A, d.length, c, true⟩ : Sq)]).getD j zq = fs.getD j zq := by simp only [List.getD_eq_getElem?_getD]; rw [List.getElem?_append_left (by rw [h.len]; exact hlt)]
    have e2 : (l ++ [(⟨s, (d.length : Int), d, true⟩ : S46)]).getD j z46 = l.getD j z46 := by simp only [List.getD_eq_getElem?_getD]; rw [List.getElem?_append_left hlt]
    rw [e1, e2]
    exact h.at_ j hlt
  · rw [List.length_append, List.length_singleton] at hj
    obtain rfl : j = l.length := by omega
    have e1 : (fs ++ [(⟨s, (d.length : Int), A, d.length, c, true⟩ : Sq)]).getD l.length zq = ⟨s, (d.length : Int), A, d.length, c, true⟩ := by rw [← h.len, List.getD_eq_getElem?_getD]; simp
    have e2 : (l ++ [(⟨s, (d.length : Int), d, true⟩ : S46)]).getD l.length z46 = ⟨s, (d.length : Int), d, true⟩ := by rw [List.getD_eq_getElem?_getD]; simp
    rw [e1, e2]
    exact ⟨rfl, rfl, rfl, rfl, hc, hC⟩
theorem want_snoc (cs : List S40) (t : Nat) (h : t < cs.length) {s : ByteArray} {d : List Int} {m : Nat} (hx : cs.getD t z40 = ⟨s, d⟩) (hm : d.length = m) : wantL (cs.take (t + 1)) = wantL (cs.take t) ++ [⟨s, (m : Int), d, true⟩] := by
  subst hm
  have e : cs[t] = ⟨s, d⟩ := by rw [← hx, List.getD_eq_getElem?_getD, List.getElem?_eq_getElem h]; rfl
  unfold wantL
  rw [List.take_succ_eq_append_getElem h, List.map_append, e]
  rfl
theorem Few.at_m {cs : List S40} (h : Few cs) {c : S40} (hc : c ∈ cs) : c.f1.length ≤ 5000 := by
  have h1 := h.s
  obtain ⟨a, b, rfl⟩ := List.append_of_mem hc
  simp only [List.map_append, List.map_cons, List.sum_append, List.sum_cons] at h1
  omega
set_option maxHeartbeats 4000000 in
set_option maxRecDepth 100000 in
theorem back_row (A0 : Option Addr) (c0 : Nat) (cs : List S40) (sz : Int) (w : World) (hr : Kd.C k40 w A0 cs.length cs) (hc : cs.length ≤ c0)
    (hok : cs.length ≤ 9223372036854775807 ∧ cs.length * 40 ≤ 140737488351232 ∧ ∀ x ∈ cs, (x.f0.size ≤ 140737488351232 ∧ (x.f1.length ≤ 9223372036854775807 ∧ x.f1.length * 1 ≤ 140737488351232 ∧ ∀ b ∈ x.f1, (Lit.int .u8 b).wf = true)))
    (hsz : (Lit.int .u8 sz).wf = true) :
    Calls Try.prog 5 #[.slice A0 cs.length c0, .int .u8 sz] w fun e w' => e = .returned (.bool true) ∧ Below w.heap.size w w' := by
  have HR := Aside0.mk hr
  have HOK := Aside0.mk hok.2.2
  have HSZ := Aside0.mk (show 0 ≤ sz ∧ sz ≤ 255 from Bytes.of (l := [sz]) (by simpa using hsz) sz (by simp))
  have hn3 : cs.length ≤ 4000000000000 := by have := hok.2.1; omega
  obtain ⟨n, hn'⟩ : ∃ n, cs.length = n := ⟨_, rfl⟩
  rw [hn'] at HR hn3 ⊢
  have HN := Aside0.mk hn'
  clear hn' hr hok hc hsz
  go_enter Try.func5, Try.ntmps5
  go_wp2_with fail
  refine (halftonelaw11_fixed.calls true w rfl).mono ?_
  rintro e w1 ⟨rfl, hb1⟩
  have HB1 := Aside0.mk hb1
  clear hb1
  go_wp2
  go_loopw [5, 23] (fun a i wr => ∃ t : Nat, t ≤ n ∧ a = .int .i64 (lenS (cs.take t) : Nat) ∧ i = .int .i64 t ∧ Aside0 (lenS (cs.take t) ≤ 5000 ∧ t ≤ 101) ∧ Aside0 (Below w.heap.size w wr)) (fun _ i _ => n - (intOf i).toNat)
  case atStart => exact ⟨0, Nat.zero_le _, rfl, rfl, ⟨by simp [lenS]⟩, HB1⟩
  case round =>
    obtain ⟨t, ht, rfl, rfl, HT, HB⟩ := hrel
    obtain ⟨wo, rfl⟩ : ∃ wo : World, wo = wr := ⟨_, rfl⟩
    obtain ⟨q, hq⟩ : ∃ q, lenS (cs.take t) = q := ⟨_, rfl⟩
    have HQ := Aside0.mk hq
    have HT1 := HT.out
    rw [hq] at HT1 ⊢
    clear hq
    by_cases hlt : t < n
    · obtain ⟨ad, A1, c1, rfl, hx0, hx1, h2, h3⟩ := k40_at (Kd.C_below HR.out HB.out) t hlt
      have hm7 : (cs.getD t z40).f1.length ≤ 140737488351232 := by
        have h1 := (HOK.out (cs.getD t z40) (by rw [List.getD_eq_getElem?_getD, List.getElem?_eq_getElem (by rw [HN.out]; exact hlt)]; simp)).2.2.1
        omega
      obtain ⟨⟨s, d⟩, hx⟩ : ∃ v, cs.getD t z40 = v := ⟨_, rfl⟩
      rw [hx] at hx0 hx1 h2 h3 hm7
      simp only at hx0 hx1 h2 h3 hm7
      obtain ⟨m, hm⟩ : ∃ m, d.length = m := ⟨_, rfl⟩
      rw [hm] at hx1 h2 h3 hm7
      have HX := Aside0.mk hx
      have HM := Aside0.mk hm
      clear hx hm h3
      have hwr : wrap64 ((q : Int) + (m : Int)) = (q : Int) + (m : Int) := by unfold wrap64; omega
      by_cases hbig : 5000 < q + m
      · have hd1 : decide (5000 < (q : Int) + (m : Int)) = true := decide_eq_true (by omega)
        go_wp2
        go_ret
        exact ⟨rfl, by (first | exact below_alloc HB.out _ | exact pw_below_drewN (below_alloc HB.out _) _)⟩
      · have hd1 : decide (5000 < (q : Int) + (m : Int)) = false := decide_eq_false (by omega)
        by_cases h100 : 100 < t
        · have hd2 : decide (100 < (t : Int)) = true := decide_eq_true (by omega)
          go_wp2
          go_ret
          exact ⟨rfl, by (first | exact below_alloc HB.out _ | exact pw_below_drewN (below_alloc HB.out _) _)⟩
        · have hd2 : decide (100 < (t : Int)) = false := decide_eq_false (by omega)
          go_wp2
          go_roundw
          case rel => exact ⟨t + 1, by omega, by rw [lenS_snoc cs t (by rw [HN.out]; exact hlt), HX.out, HQ.out]; simp only [HM.out]; push_cast; rfl, by go_num, ⟨by rw [lenS_snoc cs t (by rw [HN.out]; exact hlt), HX.out, HQ.out]; simp only [HM.out]; omega, by omega⟩, ⟨by (first | exact below_alloc HB.out _ | exact pw_below_drewN (below_alloc HB.out _) _)⟩⟩
          case measure => simp [intOf]; omega
    · obtain rfl : n = t := by omega
      have HF := Aside0.mk (show Few cs from ⟨by rw [HN.out]; exact HT.out.2, by have h := HT.out.1; rw [List.take_of_length_le (by rw [HN.out]; exact Nat.le_refl _)] at h; exact h, fun c hc => Bytes.of (HOK.out c hc).2.2.2⟩)
      clear HT HT1 HB1
      go_wp2_with fail
      refine (pack_walk A0 n c0 cs wo HN.out (Kd.C_below HR.out HB.out) HF.out).mono ?_
      rintro e w2 ⟨hb2, ⟨hk, rfl⟩ | ⟨hk, A2, c2, rfl, hO2, hR2⟩⟩
      · go_wp2
        go_ret
        exact ⟨rfl, below_then HB.out HB.out.size hb2⟩
      · have HCK := Aside0.mk (show ∀ c ∈ cs, Ck c from fun c hc => ⟨List.all_eq_true.1 hk c hc, (HF.out.at_m hc), Bytes.of (HOK.out c hc).2.2.2⟩)
        obtain ⟨b, hb⟩ : ∃ b, packL cs = b := ⟨_, rfl⟩
        have HPK := Aside0.mk hb
        have HBY := Aside0.mk (show Bytes b from by rw [← hb]; exact packL_bytes HF.out)
        have HLN := Aside0.mk (show b.length ≤ 7000 from by rw [← hb]; exact packL_len HF.out HCK.out)
        rw [hb] at hO2 ⊢
        obtain ⟨nb, hnb⟩ : ∃ nb, b.length = nb := ⟨_, rfl⟩
        rw [hnb] at hO2 ⊢
        obtain ⟨hcc, hCC⟩ := hO2.reads hnb
        have HNB := Aside0.mk hnb
        have HCC := Aside0.mk hCC
        have HB2 := Aside0.mk (below_then HB.out HB.out.size hb2)
        clear hk hO2 hR2 hb2 hb hnb hCC
        go_wp2_with fail
        refine (new_li (w := w2) (Below.refl _ _)).mono ?_
        rintro e w3 ⟨g, rfl, hL3, hb3⟩
        have HL3 := Aside0.mk hL3
        have HB3 := Aside0.mk hb3
        clear hL3 hb3
        go_wp2
        go_loopw [8, 11] (fun v8 v11 wr => ∃ (A : Option Addr) (m c' : Nat) (u11 : Value), v8 = .slice A m c' ∧ u11 = v11 ∧ m ≤ c' ∧ Aside0 (∃ rd bs hv r fs l, bs.length = m ∧ Kd.C (Kd.int .u8) w2 A m bs ∧ BackInv cs r rd bs l ∧ LI wr w2.heap.size wr.heap.size wr.heap.size g hv (.slice none 0 0) u11 r [] fs l) ∧ Aside0 (Below w2.heap.size w2 wr)) (fun v8 _ _ => lenV v8)
        case atStart => exact ⟨_, _, _, _, rfl, rfl, hcc, ⟨⟨_, _, _, _, _, _, HNB.out, HCC.out, HPK.out ▸ BackInv.new cs, HL3.out⟩⟩, HB3⟩
        case round =>
          obtain ⟨A, m, c', u11, rfl, rfl, hmc, HQ, HBX⟩ := hrel
          obtain ⟨rd, bs, hv, r, fs, l, hbm, hC, hI, hL⟩ := HQ.out
          have HBM := Aside0.mk hbm
          have HC := Aside0.mk hC
          have HI := Aside0.mk hI
          have HL := Aside0.mk hL
          clear hbm hC hI hL HQ HL3 HB3
          by_cases hm0 : 0 < m
          · obtain ⟨mm, hmin, hp0, hp2, hpm⟩ := min_nat HSZ.out hm0 (show m ≤ 100000 by have h1 := HI.out.cb; have h2 := HLN.out; rw [HPK.out] at h1; rw [← h1, List.length_append] at h2; have := HBM.out; omega)
            have hsz0 := HSZ.out.1
            have hsz1 := HSZ.out.2
            have hd0 : decide (0 < (m : Int)) = true := decide_eq_true (by omega)
            obtain ⟨i0, hi0, _, hs0, _⟩ := info_parts info5
            have hmi : (mm : Int) ≤ (m : Int) := by omega
            have hcut := cut_to (P := Try.prog) 26 5 .i64 Try.underlying26 hi0 A m c' (mm : Int) (by omega) hmi hmc
            have hcut2 := cut_from (P := Try.prog) 26 5 .i64 Try.underlying26 hi0 1 hs0 A m c' (mm : Int) (by omega) hmi
            simp only [Int.toNat_natCast] at hcut hcut2
            go_wp2_with fail
            obtain ⟨R, psF, l', hrun, hg, hI', hpl⟩ := HI.out.push HCK.out (by rw [HPK.out]; have := HLN.out; omega) (by rw [HPK.out]; exact HBY.out) (bs.take mm) (bs.drop mm) (List.take_append_drop mm bs).symm (by rw [List.length_take]; omega)
            have HGM := Aside0.mk hg
            have HI' := Aside0.mk hI'
            have HPL := Aside0.mk hpl
            have hR0 : R.e = 0 := hI'.e
            have HTL := Aside0.mk (show (bs.take mm).length = mm from by rw [List.length_take, HBM.out]; omega)
            have HCT := Aside0.mk (show Kd.C (Kd.int .u8) w2 A mm (bs.take mm) from by have h1 := HC.out; rw [← HBM.out] at h1; have h2 := Kd.C_take (m := mm) h1 (by rw [HBM.out]; exact hpm); rw [HTL.out] at h2; exact h2)
            refine (push_back HL.out HBX.out.size HCT.out HBX.out (Nat.le_refl _) (Nat.le_trans hpm hmc) (fun x hx => HBY.out x (by have h1 := HI.out.cb; rw [HPK.out] at h1; rw [← h1]; exact List.mem_append_right _ (List.mem_of_mem_take hx))) HTL.out (by omega) HI.out.e hrun).mono ?_
            rintro e w4 ⟨hv', Aq, N, cq, pcs, rfl, hL4, hP4, hb4, hz4⟩
            have HL4 := Aside0.mk hL4
            have HP4 := Aside0.mk hP4
            have HB4 := Aside0.mk (HBX.out.trans hb4)
            have HZ4 := Aside0.mk hz4
            clear hg hI' hpl hrun hL4 hP4 hb4 hz4
            have HLL := Aside0.mk (show l'.length ≤ 1000000 ∧ ∀ x ∈ l', x.f2.length ≤ 1000000 from by
              have h1 := HI'.out.cb
              have h2 := HLN.out
              rw [HPK.out] at h1
              rw [← h1, List.length_append] at h2
              have h3 := HI'.out.n
              have h4 := HI'.out.t
              exact ⟨by omega, fun x hx => by have := totS_mem hx; omega⟩)
            have HNN := Aside0.mk (show N ≤ 1000000 from by have h1 := (HP4.out.at_ (S := fun _ => False) (fun _ h => h.elim)).1; have h2 := HPL.out; omega)
            obtain ⟨A6, hA6⟩ : ∃ A1, A1 = (if c' = mm then A else (A : Option Addr).map (·.add (mm * 1))) := ⟨_, rfl⟩
            rw [← hA6] at hcut2
            have HCD := Aside0.mk (show Kd.C (Kd.int .u8) w2 A6 (m - mm) (bs.drop mm) from by have h1 := HC.out; rw [← HBM.out] at h1; have h2 := Kd.C_drop (m := mm) (c := c') h1 (by rw [HBM.out]; exact hpm) (by rw [HBM.out]; exact hmc); rw [List.length_drop, HBM.out] at h2; rw [hA6]; exact h2)
            clear hA6
            obtain ⟨m6, hm6⟩ : ∃ m6, m - mm = m6 := ⟨_, rfl⟩
            obtain ⟨c6, hc6⟩ : ∃ c6, c' - mm = c6 := ⟨_, rfl⟩
            rw [hm6, hc6] at hcut2
            have HM6 := Aside0.mk hm6
            have HC6 := Aside0.mk hc6
            rw [hm6] at HCD
            clear hm6 hc6
            go_wp2_with fail
            refine (gather_walk (ok := okG wr.heap.size g hv' (.slice none 0 0)) HL4.out.gt HB4.out.size Aq N cq (HP4.out.at_ (S := okG wr.heap.size g hv' (.slice none 0 0)) (fun k s => s.1)).1 (HP4.out.at_ (fun k s => s.1)).2 HGM.out HLL.out HNN.out).mono ?_
            rintro e w5 ⟨v5, fs5, rfl, hG5, hK5, hb5⟩
            have HL5 := Aside0.mk (HL4.out.gather hK5 hG5)
            have HB5 := Aside0.mk (HB4.out.trans hb5)
            clear hG5 hK5 hb5 HL4 HP4 HB4
            go_wp2
            go_roundw
            case rel => exact ⟨A6, m6, c6, _, rfl, rfl, by have := HM6.out; have := HC6.out; omega, ⟨⟨_, bs.drop mm, hv', R, fs5, l', by rw [List.length_drop, HBM.out]; exact HM6.out, HCD.out, HI'.out, HL5.out⟩⟩, ⟨HB5.out⟩⟩
            case measure => have := HM6.out; simp only [lenV]; omega
          · obtain rfl : m = 0 := by omega
            obtain rfl := List.length_eq_zero_iff.1 HBM.out
            obtain ⟨hbt, hlw⟩ := HI.out.last HCK.out (by rw [HPK.out]; have := HLN.out; omega)
            subst hlw
            have HBT := Aside0.mk hbt
            clear hbt hcc hmc HI HC HBM
            go_wp2
            obtain ⟨wx, rfl⟩ : ∃ wx : World, wx = wr := ⟨_, rfl⟩
            have HBX2 := Aside0.mk (below_then HB2.out HB2.out.size HBX.out)
            have hn101 : n ≤ 101 := by have := HF.out.n; rw [HN.out] at this; exact this
            go_loopw [16, 85] (fun v i wr => ∃ (t : Nat) (u : Value), u = v ∧ i = .int .i64 t ∧ t ≤ n ∧ Aside0 (∃ fs, Wnt wr wx.heap.size u fs (wantL (cs.take t)) w) ∧ Aside0 (Below wx.heap.size wx wr)) (fun _ i _ => n - (intOf i).toNat)
            case atStart => exact ⟨0, _, rfl, rfl, Nat.zero_le _, ⟨⟨[], ⟨Kd.R_nil _ _ _ _ _, rfl, fun j h => by simp [wantL] at h⟩⟩⟩, ⟨Below.refl _ _⟩⟩
            case round =>
              obtain ⟨t, u, rfl, rfl, ht, HW, HBW⟩ := hrel
              obtain ⟨fs3, hW⟩ := HW.out
              have HW := Aside0.mk hW
              clear hW
              by_cases hlt : t < n
              · obtain ⟨ad, A1, c1, rfl, hx0, hx1, h2, h3⟩ := k40_at HR.out t hlt
                replace hx0 := pw_cell_below (below_then HBX2.out HBX2.out.size HBW.out) hx0
                replace hx1 := pw_cell_below (below_then HBX2.out HBX2.out.size HBW.out) hx1
                obtain ⟨⟨s, d⟩, hx⟩ : ∃ v, cs.getD t z40 = v := ⟨_, rfl⟩
                rw [hx] at hx0 hx1 h2 h3
                simp only at hx0 hx1 h2 h3
                obtain ⟨m, hm⟩ : ∃ m, d.length = m := ⟨_, rfl⟩
                rw [hm] at hx1 h2 h3
                have HWS := Aside0.mk (want_snoc cs t (by rw [HN.out]; exact hlt) hx hm)
                have HM := Aside0.mk hm
                have H2 := Aside0.mk h2
                have H3 := Aside0.mk h3
                clear hx hm h3 h2
                obtain ⟨bx, hbx⟩ : ∃ bx, wr.heap.size = bx := ⟨_, rfl⟩
                have HBXW := Aside0.mk (show (wr.alloc (.cells #[.string s, .slice A1 m c1] 40)).heap[bx]? = some (.cells #[.string s, .slice A1 m c1] 40 (0, 0)) from by subst hbx; exact heap_alloc_new wr _)
                have HWA := Aside0.mk (show Wnt (wr.alloc (.cells #[.string s, .slice A1 m c1] 40)) wx.heap.size u fs3 (wantL (cs.take t)) w from ⟨Kd.R_below HW.out.row (below_alloc (Below.refl _ _) _), HW.out.len, HW.out.at_⟩)
                have HBA := Aside0.mk (below_then HBW.out HBW.out.size (below_alloc (Below.refl _ _) (.cells #[.string s, .slice A1 m c1] 40)))
                obtain ⟨Wa, hWa⟩ : ∃ Wa, wr.alloc (.cells #[.string s, .slice A1 m c1] 40) = Wa := ⟨_, rfl⟩
                rw [hWa] at HBXW HWA HBA
                have HZA := Aside0.mk (show (fs3.length + 1) * 56 ≤ 140737488355328 from by have h1 := HWA.out.len; unfold wantL at h1; rw [List.length_map, List.length_take] at h1; omega)
                have hb0 := blk_cell HBXW.out 0
                have hb1 := blk_cell HBXW.out 1
                have hfb0 := blk_frozen HBXW.out 0
                have hfb1 := blk_frozen HBXW.out 1
                go_wp2_with (at_builtin; go_loud (refine Kd.R_append kq (w0 := wx) wx.heap.size rfl (.tmp 89) (.tmp 98) 27 46 (.agg #[.string ⟨#[]⟩, .int .i64 0, .slice none 0 0, .bool false]) 56 rfl Try.underlying27 info46_ rfl (by decide) (by decide) u fs3 ⟨s, (m : Int), A1, m, c1, true⟩ [.string s, .int .i64 (m : Int), .slice A1 m c1, .bool true] (fun _ => True) (fun _ => False) rfl rfl (kq_mkM _ _ _ _) (fun _ h => h.elim) (fun _ _ => trivial) HWA.out.row HBA.out HBA.out.size HZA.out ?_); intro v5 w5 hR5 hb5 hg5 hat5; have HW5 := Aside0.mk (HWA.out.push hR5 HM.out H2.out H3.out); have HB5 := Aside0.mk hb5; clear hR5 hb5 hg5 hat5 hb0 hb1 hfb0 hfb1)
                go_roundw
                case rel => exact ⟨t + 1, _, rfl, by go_num, by omega, ⟨⟨_, by rw [HWS.out]; exact HW5.out⟩⟩, ⟨HB5.out⟩⟩
                case measure => simp [intOf]; omega
              · obtain rfl : n = t := by omega
                have hW := HW.out
                rw [List.take_of_length_le (by rw [HN.out]; exact Nat.le_refl _)] at hW
                obtain ⟨A13, c13, rfl, _, hC13⟩ := hW.reads (below_then HBX2.out HBX2.out.size HBW.out)
                have HC13 := Aside0.mk hC13
                have HLW := Aside0.mk (HL.out.below HBW.out)
                obtain ⟨A8, c8, rfl, _, hC8⟩ := HLW.out.gt.reads
                have HC8 := Aside0.mk hC8
                have HLWN := Aside0.mk (show (wantL cs).length ≤ 1000000 from by unfold wantL; rw [List.length_map, HN.out]; omega)
                clear hW hC13 hC8
                go_wp2_with fail
                refine (between_walk HLW.out.rd).mono ?_
                rintro e w7 ⟨rfl, h7⟩
                rw [h7, HBT.out]
                clear h7
                go_wp2_with fail
                refine (same_walk A8 A13 _ c8 c13 (wantL cs) wr rfl HC8.out HC13.out HLWN.out).mono ?_
                rintro e w9 ⟨rfl, nq, h9⟩
                rw [h9]
                clear h9
                go_wp2
                go_ret
                exact ⟨rfl, pw_below_drewN (below_then HBX2.out HBX2.out.size HBW.out) nq⟩
end Go.Proofs.Ytapaodagnpaekaa.Lib
