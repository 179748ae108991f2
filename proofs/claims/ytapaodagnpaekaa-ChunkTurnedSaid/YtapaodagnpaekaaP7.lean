/- ChunkTurned, plain: what the document says of a chunk whose bits are turned. -/
import Derived.Test.YtapaodagnpaekaaP4
import Derived.Test.YtapaodagnpaekaaB
import Derived.Test.YtapaodagnpaekaaVh
namespace Go.Proofs.Ytapaodagnpaekaa.Lib
open Go.RowKit Go.Proofs.YtapaodagnpaekaaW.PrintWords Go.Proofs.YtapaodagnpaekaaW.PrintLast Go.Proofs.YtapaodagnpaekaaW.PrintMore
set_option linter.unusedVariables false
set_option linter.unusedSimpArgs false
theorem str_bytes (s : ByteArray) : strOfNums (bytesOf s) = s := by
  unfold bytesOf strOfNums
  simp only [List.map_map]
  have h : s.data.toList.map ((fun n : Int => UInt8.ofNat n.toNat) ∘ fun b => (b.toNat : Int)) = s.data.toList := by
    conv => rhs; rw [← List.map_id s.data.toList]
    refine List.map_congr_left (fun x _ => ?_)
    simp
  apply ByteArray.ext
  apply Array.ext'
  simpa using h
theorem bytesOf_Bytes (s : ByteArray) : Bytes (bytesOf s) := fun x hx => by
  obtain ⟨b, _, rfl⟩ := List.mem_map.1 hx
  have := b.toNat_lt
  omega
/-- a chunk that may be packed -/
structure Ck (c : S40) : Prop where
  k : kindB c.f0 = true
  l : c.f1.length ≤ 5000
  b : Bytes c.f1
theorem Ck.kl {c : S40} (h : Ck c) : (bytesOf c.f0).length = 4 ∧ (bytesOf c.f0).all letB = true := by
  refine ⟨by rw [bytesOf_length]; exact kind_size h.k, ?_⟩
  have := h.k
  unfold kindB at this
  exact (Bool.and_eq_true _ _ ▸ this).2
def wantL (cs : List S40) : List S46 := cs.map fun c => ⟨c.f0, (c.f1.length : Int), c.f1, true⟩
theorem Ck.done {c : S40} (h : Ck c) {D : List Int} {l : List S46} (hD : Done D l) : Done (D ++ oneL c) (l ++ [⟨c.f0, (c.f1.length : Int), c.f1, true⟩]) := by
  obtain ⟨hk, ha⟩ := h.kl
  have hl := h.l
  have h1 := Done.snoc (n := c.f1.length) hD (be4_length (c.f1.length : Int)) (be4_bytes _) (beN_be4 (by omega) (by omega)) (by omega) hk (bytesOf_Bytes _) ha rfl h.b (be4_length (moreN 0 (bytesOf c.f0 ++ c.f1))) (be4_bytes _) (beN_be4 (moreN_range _ _).1 (moreN_range _ _).2)
  rw [str_bytes] at h1
  unfold oneL
  simpa only [List.append_assoc] using h1
theorem done_cs : ∀ (cs : List S40) (D : List Int) (l : List S46), (∀ c ∈ cs, Ck c) → Done D l → Done (D ++ cs.flatMap oneL) (l ++ wantL cs)
  | [], D, l, _, hD => by simpa [wantL] using hD
  | c :: cs, D, l, h, hD => by
    have := done_cs cs _ _ (fun x hx => h x (List.mem_cons_of_mem _ hx)) ((h c List.mem_cons_self).done hD)
    simpa [wantL, List.append_assoc] using this
/-- the first bytes of one chunk -/
theorem one_pre {c : S40} (h : Ck c) {D u : List Int} {l : List S46} (hD : Done D l) (hu : u = (oneL c).take u.length) (hl : u.length < (oneL c).length) (hb : D.length ≤ 900000) :
    ∃ l' f, (f = 0 ∨ f = 2) ∧ Ev (fun k => halftoneref11_Of.l1 k (D ++ u) []) (l', f) := by
  obtain ⟨hk, ha⟩ := h.kl
  have hc := h.l
  have hs : (be4 (c.f1.length : Int)).length = 4 := be4_length _
  have hol : (oneL c).length = 12 + c.f1.length := by unfold oneL; simp only [List.length_append, hs, hk, be4_length]; omega
  have hsb := be4_bytes (c.f1.length : Int)
  have hsv : beN (be4 (c.f1.length : Int)) = (c.f1.length : Int) := beN_be4 (by omega) (by omega)
  by_cases h0 : u.length = 0
  · obtain rfl := List.length_eq_zero_iff.1 h0
    exact ⟨l, 0, .inl rfl, done_of hD [] _ (by simp; omega) tail0⟩
  by_cases h4 : u.length < 4
  · exact ⟨l, 2, .inr rfl, done_of hD u _ (by omega) (tail1 (by omega) h4)⟩
  by_cases h8 : u.length < 8
  · have e : u = be4 (c.f1.length : Int) ++ (bytesOf c.f0 ++ c.f1 ++ be4 (moreN 0 (bytesOf c.f0 ++ c.f1))).take (u.length - 4) := by
      conv => lhs; rw [hu]
      unfold oneL
      rw [List.append_assoc, List.append_assoc, List.take_append, hs, List.take_of_length_le (by omega), List.append_assoc]
    have hv : u.length = 4 + ((bytesOf c.f0 ++ c.f1 ++ be4 (moreN 0 (bytesOf c.f0 ++ c.f1))).take (u.length - 4)).length := by
      conv => lhs; rw [e]
      rw [List.length_append, hs]
    rw [e]
    exact ⟨l, 2, .inr rfl, done_of hD _ _ (by rw [← e]; omega) (tail3 hs hsb (by omega) (by omega))⟩
  · have e : u = be4 (c.f1.length : Int) ++ bytesOf c.f0 ++ (c.f1 ++ be4 (moreN 0 (bytesOf c.f0 ++ c.f1))).take (u.length - 8) := by
      conv => lhs; rw [hu]
      unfold oneL
      rw [List.append_assoc (be4 _ ++ bytesOf c.f0), List.take_append, List.length_append, hs, hk, List.take_of_length_le (by rw [List.length_append, hs, hk]; omega)]
    have hv : u.length = 8 + ((c.f1 ++ be4 (moreN 0 (bytesOf c.f0 ++ c.f1))).take (u.length - 8)).length := by
      conv => lhs; rw [e]
      rw [List.length_append, List.length_append, hs, hk]
    have hln := hD.len
    rw [e]
    exact ⟨_, 2, .inr rfl, done_of hD _ _ (by rw [← e]; omega) (tail5 (n := c.f1.length) hs hsb hsv (by omega) hk (bytesOf_Bytes _) ha (by omega) (by omega) (by omega))⟩
/-- the first bytes of some chunks -/
theorem cs_pre : ∀ (cs : List S40) (D u : List Int) (l : List S46), (∀ c ∈ cs, Ck c) → Done D l → u = (cs.flatMap oneL).take u.length → u.length ≤ (cs.flatMap oneL).length → D.length + (cs.flatMap oneL).length ≤ 900000 →
    ∃ l' f, (f = 0 ∨ f = 2) ∧ Ev (fun k => halftoneref11_Of.l1 k (D ++ u) []) (l', f)
  | [], D, u, l, _, hD, _, hl, hb => by
    obtain rfl := List.length_eq_zero_iff.1 (Nat.le_zero.1 hl)
    exact ⟨l, 0, .inl rfl, done_of hD [] _ (by simp at hb ⊢; omega) tail0⟩
  | c :: cs, D, u, l, h, hD, hu, hl, hb => by
    rw [List.flatMap_cons] at hu hl hb
    rw [List.length_append] at hl hb
    by_cases h1 : u.length < (oneL c).length
    · rw [List.take_append, Nat.sub_eq_zero_of_le (by omega : u.length ≤ (oneL c).length), List.take_zero, List.append_nil] at hu
      exact one_pre (h c List.mem_cons_self) hD hu h1 (by omega)
    · rw [List.take_append, List.take_of_length_le (by omega)] at hu
      obtain ⟨v, hv⟩ : ∃ v, (cs.flatMap oneL).take (u.length - (oneL c).length) = v := ⟨_, rfl⟩
      have hv2 : v.length = u.length - (oneL c).length := by rw [← hv, List.length_take]; omega
      rw [hv] at hu
      rw [hu, ← List.append_assoc]
      exact cs_pre cs (D ++ oneL c) v _ (fun x hx => h x (List.mem_cons_of_mem _ hx)) ((h c List.mem_cons_self).done hD) (by rw [hv2, hv]) (by omega) (by rw [List.length_append]; omega)
theorem pack_pre {cs : List S40} (h : ∀ c ∈ cs, Ck c) (hb : (packL cs).length ≤ 800000) (u : List Int) (hu : u = (packL cs).take u.length) (hl : u.length ≤ (packL cs).length) : ∃ l' f, (f = 0 ∨ f = 2) ∧ Ev (fun k => halftoneref11_Of.f k u) (l', f) := by
  have e8 : firstL.length = 8 := rfl
  unfold packL at hu hl hb
  rw [List.length_append, e8] at hl hb
  by_cases h8 : u.length < 8
  · rw [List.take_append, e8, Nat.sub_eq_zero_of_le (by omega : u.length ≤ 8), List.take_zero, List.append_nil] at hu
    exact ⟨[], 2, .inr rfl, of_short hu h8⟩
  · rw [List.take_append, e8, List.take_of_length_le (by omega)] at hu
    obtain ⟨v, hv⟩ : ∃ v, (cs.flatMap oneL).take (u.length - 8) = v := ⟨_, rfl⟩
    have hv2 : v.length = u.length - 8 := by rw [← hv, List.length_take]; omega
    rw [hv] at hu
    rw [hu]
    obtain ⟨l', f, hf, hE⟩ := cs_pre cs [] v [] h Done.nil (by rw [hv2, hv]) (by omega) (by rw [List.length_nil]; omega)
    exact ⟨l', f, hf, of_first v _ hE⟩
theorem pack_all {cs : List S40} (h : ∀ c ∈ cs, Ck c) (hb : (packL cs).length ≤ 800000) : Ev (fun k => halftoneref11_Of.f k (packL cs)) (wantL cs, 0) := by
  unfold packL at hb ⊢
  rw [List.length_append] at hb
  refine of_first _ _ ?_
  have hD := done_cs cs [] [] h Done.nil
  rw [List.nil_append, List.nil_append] at hD
  have := done_of hD [] _ (by rw [List.length_nil]; omega) tail0
  rwa [List.append_nil] at this
theorem ev_one_value {α : Type} {g : Nat → Option α} {a b : α} (h : Ev g a) (h' : Ev g b) : a = b := by
  obtain ⟨K, hK⟩ := h
  obtain ⟨K', hK'⟩ := h'
  exact Option.some.inj ((hK (K + K') (by omega)).symm.trans (hK' (K + K') (by omega)))
/-- what ChunkBack's loop keeps: c read, b to come -/
structure BackInv (cs : List S40) (r : RS) (c b : List Int) (l : List S46) : Prop where
  e : r.e = 0
  j : J r c l
  q : Rest r
  cb : c ++ b = packL cs
  n : l.length ≤ c.length
  t : totS l ≤ c.length
theorem BackInv.new (cs : List S40) : BackInv cs RS.new [] (packL cs) [] :=
  ⟨rfl, J.j0 rfl (by decide) rfl, ⟨fun _ => by decide, fun h => absurd h (by decide)⟩, List.nil_append _, by simp, by simp [totS]⟩
theorem j_len {r : RS} {c : List Int} {l : List S46} (h : J r c l) : l.length ≤ c.length := by
  have e8 : firstL.length = 8 := rfl
  cases h with
  | j0 _ _ _ => exact Nat.zero_le _
  | j1 _ hD _ _ => have := hD.len; simp only [List.length_append]; omega
  | j2 _ hD _ _ _ _ _ _ => have := hD.len; simp only [List.length_append]; omega
  | j3 _ _ hD _ _ _ _ _ => have := hD.len; simp only [List.length_append, List.length_singleton]; omega
  | j4 _ hD _ _ _ _ _ _ => have := hD.len; simp only [List.length_append, List.length_singleton]; omega
theorem BackInv.push {cs : List S40} {r : RS} {c b : List Int} {l : List S46} (hc : ∀ x ∈ cs, Ck x) (hb : (packL cs).length ≤ 800000) (hB : Bytes (packL cs)) (h : BackInv cs r c b l) (p : List Int) (b' : List Int) (hp : b = p ++ b') (hp6 : p.length ≤ 300) :
    ∃ R psF l', runM 700 r p [] = some (R, psF) ∧ gathM l psF = some l' ∧ BackInv cs R (c ++ p) b' l' ∧ psF.length ≤ 700 := by
  have hcb := h.cb
  have hpb : Bytes p := fun x hx => hB x (by rw [← hcb, hp]; simp [hx])
  have hlen : c.length + p.length + b'.length ≤ 800000 := by rw [← hcb, hp, List.length_append, List.length_append] at hb; omega
  obtain ⟨R, psF, h1, l', h2, h3⟩ := run_ok (l0 := l) 700 r c p l [] h.j ⟨rfl, fun _ i p e => by simp at e, fun _ i p e => by simp at e⟩ h.e hpb (by omega) (by unfold mu; split <;> split <;> omega)
  obtain ⟨b1, b2, b3⟩ := run_b 700 r p [] R psF h1
  obtain ⟨g1, g2⟩ := gath_b psF l l' h2
  have b2' : totP psF ≤ p.length := by simpa [totP] using b2
  simp only [List.length_nil] at b1
  have hcp : c ++ p = (packL cs).take (c ++ p).length := by
    rw [← hcb, hp, ← List.append_assoc, List.take_left' rfl]
  have ht := h.t
  rcases h3 with ⟨e0, j, q⟩ | ⟨e0, hE⟩
  · exact ⟨R, psF, l', h1, h2, ⟨e0, j, q, by rw [List.append_assoc, ← hp]; exact hcb, j_len j, by rw [List.length_append]; omega⟩, by omega⟩
  · obtain ⟨l2, f, hf, hE2⟩ := pack_pre hc hb (c ++ p) hcp (by rw [← hcb, hp]; simp only [List.length_append]; omega)
    have e := congrArg Prod.snd (ev_one_value hE hE2)
    have e1 : R.e = f := e
    have n2 := b3 (by rw [h.e]; decide)
    rcases hf with rfl | rfl
    · exact absurd e1 e0
    · exact absurd e1 n2
theorem BackInv.last {cs : List S40} {r : RS} {c : List Int} {l : List S46} (hc : ∀ x ∈ cs, Ck x) (hb : (packL cs).length ≤ 800000) (h : BackInv cs r c [] l) : betB r = true ∧ l = wantL cs := by
  have hcb := h.cb
  rw [List.append_nil] at hcb
  have hE := rest_of h.j h.q (by rw [hcb]; omega)
  rw [hcb] at hE
  have e := ev_one_value hE (pack_all hc hb)
  have e1 : l = wantL cs := congrArg Prod.fst e
  have e2 : (if r.st = 1 ∧ r.held.length = 0 then (0 : Int) else 2) = 0 := congrArg Prod.snd e
  refine ⟨?_, e1⟩
  by_cases hs : r.st = 1 ∧ r.held.length = 0
  · unfold betB
    rw [h.e, hs.1, hs.2]
    rfl
  · rw [if_neg hs] at e2
    exact absurd e2 (by decide)
def lenS (cs : List S40) : Nat := (cs.map fun c => c.f1.length).sum
theorem OutV.reads {W : World} {base : Nat} {A : Option Addr} {n c : Nat} {xs : List Int} (h : OutV W base (.slice A n c) xs) (hn : xs.length = n) : n ≤ c ∧ Kd.C (Kd.int .u8) W A n xs := by
  subst hn
  rcases h with h | ⟨g, e, h⟩
  · exact ⟨(Kd.R_reads' h).2.1, (Kd.R_reads' h).2.2⟩
  · injection e with e1 e2 e3
    subst e1 e3
    exact ⟨Nat.le_refl _, h⟩
theorem packL_bytes {cs : List S40} (h : Few cs) : Bytes (packL cs) := by
  intro x hx
  rcases List.mem_append.1 hx with h1 | h1
  · simp [firstL] at h1
    omega
  · obtain ⟨c, hc, hx2⟩ := List.mem_flatMap.1 h1
    unfold oneL at hx2
    simp only [List.mem_append] at hx2
    rcases hx2 with ((h2 | h2) | h2) | h2
    · exact be4_bytes _ x h2
    · exact bytesOf_Bytes _ x h2
    · exact h.b c hc x h2
    · exact be4_bytes _ x h2
theorem flatC_len : ∀ (cs : List S40), (∀ c ∈ cs, Ck c) → (cs.flatMap oneL).length = 12 * cs.length + lenS cs
  | [], _ => by simp [lenS]
  | c :: cs, h => by
    have h1 := flatC_len cs (fun x hx => h x (List.mem_cons_of_mem _ hx))
    have h2 : (oneL c).length = 12 + c.f1.length := by unfold oneL; simp only [List.length_append, be4_length, (h c List.mem_cons_self).kl.1]; omega
    rw [List.flatMap_cons, List.length_append, h1, h2, List.length_cons]
    have h3 : lenS (c :: cs) = c.f1.length + lenS cs := by simp [lenS]
    omega
theorem packL_len {cs : List S40} (h : Few cs) (hk : ∀ c ∈ cs, Ck c) : (packL cs).length ≤ 7000 := by
  have h1 := flatC_len cs hk
  have h2 := h.n
  have h3 : lenS cs ≤ 5000 := h.s
  have h4 : firstL.length = 8 := rfl
  unfold packL
  rw [List.length_append]
  omega
theorem sum_shows {b c : List Int} (hb : Bytes b) (hc : Bytes c) {at_ : Nat} (h : Near at_ (bitsOf b) (bitsOf c)) (hs : moreN 0 b = moreN 0 c) : b = c := by
  refine burst_shows b c hb hc at_ h (~~~ (reg 0)) ?_
  have h1 := congrArg reg hs
  unfold moreN at h1
  rw [reg_num, reg_num] at h1
  have h2 := congrArg (fun x => ~~~ x) h1
  simpa using h2
/-- a chunk's bytes: kind and data, and the sum, as they came -/
theorem turned_of {sz body sm : List Int} {n : Nat} (hs : sz.length = 4) (hb : Bytes sz) (hz : beN sz = n) (hx : n ≤ 2000) (hbl : body.length = n + 4) (hbb : Bytes body) (hm : sm.length = 4) (hmb : Bytes sm) :
    ∃ l f, Ev (fun k => halftoneref11_Of.f k (firstL ++ (sz ++ body ++ sm))) (l, f) ∧ ((beN sm ≠ moreN 0 body ∨ (body.take 4).all letB = false) → (f = 3 ∨ f = 4) ∧ ∀ x ∈ l, x.f3 = false) := by
  have e : body = body.take 4 ++ body.drop 4 := (List.take_append_drop 4 body).symm
  obtain ⟨kd, hkd⟩ : ∃ kd, body.take 4 = kd := ⟨_, rfl⟩
  obtain ⟨dt, hdt⟩ : ∃ dt, body.drop 4 = dt := ⟨_, rfl⟩
  have hk : kd.length = 4 := by rw [← hkd, List.length_take]; omega
  have hd : dt.length = n := by rw [← hdt, List.length_drop]; omega
  have hkb : Bytes kd := fun x h => hbb x (by rw [← hkd] at h; exact List.mem_of_mem_take h)
  have hdb : Bytes dt := fun x h => hbb x (by rw [← hdt] at h; exact List.mem_of_mem_drop h)
  rw [hkd, hdt] at e
  rw [hkd, e]
  cases hl : kd.all letB with
  | false =>
    have h1 := tail4 (out := []) (u := dt ++ sm) hs hb (by omega) hk hkb hl
    refine ⟨[], 3, of_first _ _ ?_, fun _ => ⟨.inl rfl, fun x hx => by cases hx⟩⟩
    simpa only [List.append_assoc] using h1
  | true =>
    obtain ⟨K, hK⟩ := tail_K (out := []) (u := []) hs hb hz (by omega) hk hkb hl hd hdb hm hmb (by simp) (by simp)
    by_cases hq : beN sm = moreN 0 (kd ++ dt)
    · refine ⟨[⟨strOfNums kd, n, dt, true⟩], 0, of_first _ _ ?_, fun h => ?_⟩
      · obtain ⟨K2, hK2⟩ := tail0 (out := [] ++ [⟨strOfNums kd, (n : Int), dt, true⟩])
        refine ⟨K + K2 + 1, fun k hk2 => ?_⟩
        obtain ⟨j, rfl⟩ : ∃ j, k = j + 1 := ⟨k - 1, by omega⟩
        have h3 := hK j (by omega)
        rw [if_pos hq, List.append_nil] at h3
        have h4 := h3.trans (hK2 j (by omega))
        simpa only [List.append_assoc, List.nil_append] using h4
      · rcases h with h | h
        · exact absurd hq h
        · cases h
    · refine ⟨[⟨strOfNums kd, n, dt, false⟩], 4, of_first _ _ ?_, fun _ => ⟨.inr rfl, fun x hx => by rw [List.mem_singleton] at hx; rw [hx]⟩⟩
      refine ⟨K + 1, fun k hk2 => ?_⟩
      obtain ⟨j, rfl⟩ : ∃ j, k = j + 1 := ⟨k - 1, by omega⟩
      have h3 := hK j (by omega)
      rw [if_neg hq, List.append_nil] at h3
      simpa only [List.append_assoc, List.nil_append] using h3
theorem gath1_end {l l' : List S46} {p : PS} (h : gath1 l p = some l') : ((∃ x ∈ l, x.f3 = true) ∨ p.en = true) → ∃ x ∈ l', x.f3 = true := by
  obtain ⟨m, x, hb, hx3, _, _, _, rfl⟩ := gath1_inv h
  rintro (⟨y, hy, hy3⟩ | he)
  · have h1 : y ∈ m ++ [x] := by
      rw [← hb]
      unfold gbase
      split
      · exact List.mem_append_left _ hy
      · exact hy
    rcases List.mem_append.1 h1 with h2 | h2
    · exact ⟨y, List.mem_append_left _ h2, hy3⟩
    · rw [List.mem_singleton] at h2
      rw [h2, hx3] at hy3
      cases hy3
  · exact ⟨_, List.mem_append_right _ (List.mem_singleton.2 rfl), he⟩
theorem gath_end : ∀ (ps : List PS) (l l' : List S46), gathM l ps = some l' → ((∃ x ∈ l, x.f3 = true) ∨ ∃ p ∈ ps, p.en = true) → ∃ x ∈ l', x.f3 = true
  | [], l, l', h, hx => by
    obtain rfl := Option.some.inj (show some l = some l' from h)
    rcases hx with hx | ⟨p, hp, _⟩
    · exact hx
    · cases hp
  | p :: ps, l, l', h, hx => by
    obtain ⟨l2, h1, h2⟩ := Option.bind_eq_some_iff.1 (show (gath1 l p).bind (fun l' => gathM l' ps) = some l' from h)
    refine gath_end ps l2 l' h2 ?_
    rcases hx with hx | ⟨y, hy, hye⟩
    · exact .inl (gath1_end h1 (.inl hx))
    · rcases List.mem_cons.1 hy with rfl | hy
      · exact .inl (gath1_end h1 (.inr hye))
      · exact .inr ⟨y, hy, hye⟩
/-- Push of a chunk whose bits are turned -/
theorem push_turned {U : List Int} (hU : Bytes U) (hl : U.length ≤ 3000) {l : List S46} {f : Int} (hE : Ev (fun k => halftoneref11_Of.f k U) (l, f)) (hf : f = 3 ∨ f = 4) (h3 : ∀ x ∈ l, x.f3 = false) :
    ∃ R psF, runM 7000 RS.new U [] = some (R, psF) ∧ R.e = f ∧ (∀ p ∈ psF, p.en = false) ∧ betB R = false ∧ psF.length ≤ 7000 := by
  obtain ⟨R, psF, h1, l', h2, h4⟩ := run_ok (l0 := []) 7000 RS.new [] U [] [] (J.j0 rfl (by decide) rfl) ⟨rfl, fun _ i p e => by simp at e, fun _ i p e => by simp at e⟩ rfl hU (by simp; omega) (by unfold mu; split <;> split <;> omega)
  obtain ⟨b1, _, _⟩ := run_b 7000 RS.new U [] R psF h1
  rw [List.nil_append] at h4
  rcases h4 with ⟨e0, j, q⟩ | ⟨e0, hE2⟩
  · exfalso
    have e := congrArg Prod.snd (ev_one_value hE (rest_of j q (by omega)))
    have e1 : f = (if R.st = 1 ∧ R.held.length = 0 then 0 else 2) := e
    split at e1 <;> omega
  · have e := ev_one_value hE hE2
    have e1 : f = R.e := congrArg Prod.snd e
    have e2 : l = l' := congrArg Prod.fst e
    subst e2
    refine ⟨R, psF, h1, e1.symm, fun p hp => ?_, ?_, by simpa using b1⟩
    · cases hen : p.en with
      | false => rfl
      | true =>
        obtain ⟨x, hx, hx3⟩ := gath_end psF [] l h2 (.inr ⟨p, hp, hen⟩)
        rw [h3 x hx] at hx3
        cases hx3
    · unfold betB
      rw [beq_false_of_ne e0]
      rfl
/-- the pack of one chunk, its kind and data and its sum as they came -/
theorem oneL_eq (s : ByteArray) (d : List Int) : packL [⟨s, d⟩] = firstL ++ (be4 (d.length : Int) ++ (bytesOf s ++ d) ++ be4 (moreN 0 (bytesOf s ++ d))) := by
  simp [packL, oneL, List.append_assoc]
/-- kind and data, and the sum: as they were, or so that it shows -/
structure TU (s : ByteArray) (d bd sm : List Int) : Prop where
  bl : bd.length = d.length + 4
  bb : Bytes bd
  sl : sm.length = 4
  sb : Bytes sm
  or : (bd = bytesOf s ++ d ∧ sm = be4 (moreN 0 (bytesOf s ++ d))) ∨ beN sm ≠ moreN 0 bd
theorem beN_inj {a b : List Int} (ha : a.length = 4) (hb : b.length = 4) (hA : Bytes a) (hB : Bytes b) (h : beN a = beN b) : a = b := by
  match a, b, ha, hb with
  | [a0, a1, a2, a3], [b0, b1, b2, b3], _, _ =>
    have := hA a0 (by simp); have := hA a1 (by simp); have := hA a2 (by simp); have := hA a3 (by simp)
    have := hB b0 (by simp); have := hB b1 (by simp); have := hB b2 (by simp); have := hB b3 (by simp)
    simp [beN] at h
    simp
    omega
theorem TU.turned {s : ByteArray} {d c : List Int} (hk : Ck ⟨s, d⟩) {at_ : Nat} (hN : Near at_ (bitsOf (bytesOf s ++ d)) (bitsOf c)) (hc : Bytes c) (hl : c.length = d.length + 4) : TU s d c (be4 (moreN 0 (bytesOf s ++ d))) := by
  have hb : Bytes (bytesOf s ++ d) := fun x hx => (List.mem_append.1 hx).elim (bytesOf_Bytes s x) (hk.b x)
  refine ⟨hl, hc, be4_length _, be4_bytes _, ?_⟩
  by_cases h : moreN 0 (bytesOf s ++ d) = moreN 0 c
  · exact .inl ⟨(sum_shows hb hc hN h).symm, rfl⟩
  · exact .inr (by rw [beN_be4 (moreN_range _ _).1 (moreN_range _ _).2]; exact h)
theorem TU.sum {s : ByteArray} {d sm : List Int} (hk : Ck ⟨s, d⟩) (hs : sm.length = 4) (hb : Bytes sm) : TU s d (bytesOf s ++ d) sm := by
  refine ⟨by rw [List.length_append, hk.kl.1]; omega, fun x hx => (List.mem_append.1 hx).elim (bytesOf_Bytes s x) (hk.b x), hs, hb, ?_⟩
  by_cases h : beN sm = moreN 0 (bytesOf s ++ d)
  · refine .inl ⟨rfl, beN_inj hs (be4_length _) hb (be4_bytes _) ?_⟩
    rw [beN_be4 (moreN_range _ _).1 (moreN_range _ _).2]; exact h
  · exact .inr h
def uL (d bd sm : List Int) : List Int := firstL ++ (be4 (d.length : Int) ++ bd ++ sm)
theorem push_whole {U : List Int} (hU : Bytes U) (hl : U.length ≤ 3000) {l : List S46} (hE : Ev (fun k => halftoneref11_Of.f k U) (l, 0)) :
    ∃ R psF, runM 7000 RS.new U [] = some (R, psF) ∧ R.e = 0 ∧ betB R = true ∧ psF.length ≤ 7000 := by
  obtain ⟨R, psF, h1, l', h2, h4⟩ := run_ok (l0 := []) 7000 RS.new [] U [] [] (J.j0 rfl (by decide) rfl) ⟨rfl, fun _ i p e => by simp at e, fun _ i p e => by simp at e⟩ rfl hU (by simp; omega) (by unfold mu; split <;> split <;> omega)
  obtain ⟨b1, _, _⟩ := run_b 7000 RS.new U [] R psF h1
  rw [List.nil_append] at h4
  rcases h4 with ⟨e0, j, q⟩ | ⟨e0, hE2⟩
  · have e := congrArg Prod.snd (ev_one_value hE (rest_of j q (by omega)))
    have e1 : 0 = (if R.st = 1 ∧ R.held.length = 0 then (0 : Int) else 2) := e
    refine ⟨R, psF, h1, e0, ?_, by simpa using b1⟩
    by_cases hs : R.st = 1 ∧ R.held.length = 0
    · unfold betB
      rw [e0, hs.1, hs.2]
      rfl
    · rw [if_neg hs] at e1
      exact absurd e1 (by decide)
  · have e := congrArg Prod.snd (ev_one_value hE hE2)
    have e1 : 0 = R.e := e
    exact absurd e1.symm e0
/-- what Push tells of it -/
theorem push_tu {s : ByteArray} {d bd sm : List Int} (hk : Ck ⟨s, d⟩) (hd : d.length ≤ 2000) (h : TU s d bd sm) :
    ∃ R psF, runM 7000 RS.new (uL d bd sm) [] = some (R, psF) ∧ psF.length ≤ 7000 ∧ ((uL d bd sm = packL [⟨s, d⟩] ∧ R.e = 0 ∧ betB R = true) ∨ (uL d bd sm ≠ packL [⟨s, d⟩] ∧ (R.e = 3 ∨ R.e = 4) ∧ (∀ p ∈ psF, p.en = false) ∧ betB R = false)) := by
  have hsz := be4_length (d.length : Int)
  have hUl : (uL d bd sm).length = 20 + d.length := by
    have e8 : firstL.length = 8 := rfl
    unfold uL
    simp only [List.length_append, e8, hsz, h.bl, h.sl]
    omega
  have hUb : Bytes (uL d bd sm) := by
    intro x hx
    unfold uL at hx
    rcases List.mem_append.1 hx with h1 | h1
    · simp [firstL] at h1
      omega
    · rcases List.mem_append.1 h1 with h1 | h1
      · rcases List.mem_append.1 h1 with h1 | h1
        · exact be4_bytes _ x h1
        · exact h.bb x h1
      · exact h.sb x h1
  have hcs : ∀ x ∈ [(⟨s, d⟩ : S40)], Ck x := fun x hx => by rw [List.mem_singleton] at hx; rw [hx]; exact hk
  by_cases hq : uL d bd sm = packL [⟨s, d⟩]
  · obtain ⟨R, psF, h1, h2, h3, h4⟩ := push_whole hUb (by omega) (by rw [hq]; exact pack_all hcs (by rw [← hq]; omega))
    exact ⟨R, psF, h1, h4, .inl ⟨hq, h2, h3⟩⟩
  · have hne : beN sm ≠ moreN 0 bd := by
      rcases h.or with ⟨rfl, rfl⟩ | h1
      · exact absurd (oneL_eq s d).symm hq
      · exact h1
    obtain ⟨l, f, hE, hf⟩ := turned_of (n := d.length) hsz (be4_bytes _) (beN_be4 (by omega) (by omega)) hd h.bl h.bb h.sl h.sb
    obtain ⟨hf1, hf2⟩ := hf (.inl hne)
    obtain ⟨R, psF, h1, h2, h3, h4, h5⟩ := push_turned hUb (by omega) hE hf1 hf2
    exact ⟨R, psF, h1, h5, .inr ⟨hq, by rw [h2]; exact hf1, h3, h4⟩⟩
end Go.Proofs.Ytapaodagnpaekaa.Lib
