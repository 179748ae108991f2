/- chunk: the reader against the reference, in plain Lean. -/
import Derived.Test.YtapaodagnpaekaaP3
import Derived.Test.YtapaodagnpaekaaVg
namespace Go.Proofs.Ytapaodagnpaekaa.Lib
open Go.RowKit Go.Proofs.YtapaodagnpaekaaW.PrintWords Go.Proofs.YtapaodagnpaekaaW.PrintLast Go.Proofs.YtapaodagnpaekaaW.PrintMore
set_option linter.unusedVariables false
set_option linter.unusedSimpArgs false
/-- a chunk's head -/
structure Head (sz kd : List Int) (r : RS) : Prop where
  sl : sz.length = 4
  sb : Bytes sz
  sv : beN sz = r.size
  sx : r.size ≤ 1048576
  kl : kd.length = 4
  kb : Bytes kd
  ka : kd.all letB = true
  kk : r.kind = strOfNums kd
/-- where the reader stands, all bytes read -/
inductive J (r : RS) : List Int → List S46 → Prop
  | j0 : r.st = 0 → r.held.length ≤ 8 → r.held = firstL.take r.held.length → J r r.held []
  | j1 {D l} : r.st = 1 → Done D l → Bytes r.held → r.held.length < 4 → J r (firstL ++ D ++ r.held) l
  | j2 {D l sz} : r.st = 2 → Done D l → sz.length = 4 → Bytes sz → beN sz = r.size → r.size ≤ 1048576 → Bytes r.held → r.held.length < 4 → J r (firstL ++ D ++ sz ++ r.held) l
  | j3 {D l sz kd dt} : r.st = 3 → r.held = [] → Done D l → Head sz kd r → Bytes dt → r.left = r.size - dt.length → 0 ≤ r.left → r.sum = moreN 0 (kd ++ dt) → J r (firstL ++ D ++ sz ++ kd ++ dt) (l ++ [⟨r.kind, r.size, dt, false⟩])
  | j4 {D l sz kd dt} : r.st = 4 → Done D l → Head sz kd r → Bytes dt → r.size = dt.length → r.sum = moreN 0 (kd ++ dt) → Bytes r.held → r.held.length < 4 → J r (firstL ++ D ++ sz ++ kd ++ dt ++ r.held) (l ++ [⟨r.kind, r.size, dt, false⟩])
/-- at rest -/
def Rest (r : RS) : Prop := (r.st = 0 → r.held.length < 8) ∧ (r.st = 3 → 0 < r.left)
theorem ev_tail {D : List Int} {l : List S46} (hD : Done D l) {u : List Int} {R : List S46 × Int} (hl : D.length + u.length ≤ 1000000) (h : Ev (fun k => halftoneref11_Of.l1 k u l) R) : Ev (fun k => halftoneref11_Of.f k (firstL ++ (D ++ u))) R :=
  of_first _ _ (done_of hD u R hl h)
theorem head_nat {sz kd : List Int} {r : RS} (h : Head sz kd r) : ∃ n : Nat, r.size = n ∧ n ≤ 1048576 ∧ beN sz = n := by
  have h1 := beN_nonneg h.sl h.sb
  rw [h.sv] at h1
  refine ⟨r.size.toNat, by omega, by have := h.sx; omega, by rw [h.sv]; omega⟩
/-- what the document says of all bytes read, at rest -/
theorem rest_of {r : RS} {c : List Int} {l : List S46} (h : J r c l) (hr : Rest r) (hl : c.length ≤ 900000) : Ev (fun k => halftoneref11_Of.f k c) (l, if r.st = 1 ∧ r.held.length = 0 then 0 else 2) := by
  cases h with
  | j0 h1 h2 h3 =>
    rw [if_neg (by omega)]
    exact of_short h3 (hr.1 h1)
  | @j1 D l h1 h2 hb h3 =>
    simp only [List.length_append] at hl
    rw [List.append_assoc]
    refine ev_tail h2 (by omega) ?_
    by_cases h0 : r.held.length = 0
    · rw [if_pos ⟨h1, h0⟩, List.length_eq_zero_iff.1 h0]
      exact tail0
    · rw [if_neg (by omega)]
      exact tail1 (by omega) h3
  | @j2 D l sz h1 h2 h3 h4 h5 h6 hb h7 =>
    simp only [List.length_append] at hl
    rw [if_neg (by omega), List.append_assoc, List.append_assoc]
    exact ev_tail h2 (by simp only [List.length_append]; omega) (tail3 h3 h4 (by omega) h7)
  | @j3 D l sz kd dt h1 h0 h2 h3 h4 h5 h6 h7 =>
    have hd := h2.len
    obtain ⟨n, hn, hn1, hn2⟩ := head_nat h3
    have hlf := hr.2 h1
    simp only [List.length_append] at hl
    rw [if_neg (by omega), List.append_assoc, List.append_assoc, List.append_assoc, ← List.append_assoc sz kd dt]
    refine ev_tail h2 (by simp only [List.length_append]; omega) ?_
    have h9 := tail5 (out := l) (u := dt) h3.sl h3.sb hn2 hn1 h3.kl h3.kb h3.ka (by omega) (by omega) (by omega)
    rw [List.take_of_length_le (by omega)] at h9
    rw [h3.kk, hn]
    exact h9
  | @j4 D l sz kd dt h1 h2 h3 h4 h5 h6 hb h7 =>
    have hd := h2.len
    obtain ⟨n, hn, hn1, hn2⟩ := head_nat h3
    simp only [List.length_append] at hl
    rw [if_neg (by omega), List.append_assoc, List.append_assoc, List.append_assoc, List.append_assoc, ← List.append_assoc sz kd]
    refine ev_tail h2 (by simp only [List.length_append]; omega) ?_
    have h9 := tail5 (out := l) (u := dt ++ r.held) h3.sl h3.sb hn2 hn1 h3.kl h3.kb h3.ka (by simp only [List.length_append]; omega) (by omega) (by simp only [List.length_append]; omega)
    rw [List.take_left' (by omega)] at h9
    rw [h3.kk, hn]
    exact h9
/-- what is left to do -/
def mu (r : RS) (b : List Int) : Nat := 2 * b.length + (if r.st = 3 then 1 else 0) + (if r.st = 0 ∧ r.held.length = 8 then 1 else 0)
/-- a step that goes on -/
def GoOn (l0 : List S46) (c b : List Int) (r : RS) (s : RS × List Int × List PS) : Prop :=
  ∃ t l', b = t ++ s.2.1 ∧ J s.1 (c ++ t) l' ∧ GK l0 l' s.2.2 s.1 ∧ s.1.e = 0 ∧ mu s.1 s.2.1 < mu r b
/-- a step that ends -/
def Stops (l0 : List S46) (c b : List Int) (s : RS × List Int × List PS) : Prop :=
  ∃ l', gathM l0 s.2.2 = some l' ∧ ((s.1.e = 0 ∧ J s.1 (c ++ b) l' ∧ Rest s.1) ∨ (s.1.e ≠ 0 ∧ Ev (fun k => halftoneref11_Of.f k (c ++ b)) (l', s.1.e)))
theorem held4 {h b : List Int} (hh : h.length < 4) {kk : Nat} (hk : min (4 - h.length) b.length = kk) (h4 : h.length + kk = 4) : ∃ t u, b = t ++ u ∧ t.length = kk ∧ b.take kk = t ∧ b.drop kk = u ∧ (h ++ t).length = 4 ∧ 0 < kk := by
  refine ⟨b.take kk, b.drop kk, (List.take_append_drop _ _).symm, by rw [List.length_take]; omega, rfl, rfl, by rw [List.length_append, List.length_take]; omega, by omega⟩
theorem heldS {h b : List Int} (hh : h.length < 4) {kk : Nat} (hk : min (4 - h.length) b.length = kk) (h4 : h.length + kk ≠ 4) : b.take kk = b ∧ b.drop kk = [] ∧ (h ++ b).length < 4 :=
  ⟨List.take_of_length_le (by omega), List.drop_eq_nil_of_le (by omega), by rw [List.length_append]; omega⟩
theorem takeFirst {c : List Int} {x : Int} (h : c = firstL.take c.length) (hl : c.length < 8) (hx : x = firstL.getD c.length 0) : c ++ [x] = firstL.take (c ++ [x]).length := by
  rw [List.length_append, List.length_singleton, List.take_succ_eq_append_getElem (show c.length < firstL.length from hl), ← h]
  congr 1
  rw [hx, List.getD_eq_getElem?_getD, List.getElem?_eq_getElem (show c.length < firstL.length from hl)]
  rfl
section
variable {l0 l : List S46} {ps : List PS} {r : RS} {c b : List Int}
theorem step_sign (h0 : r.st = 0) (h2 : r.held.length ≤ 8) (h3 : r.held = firstL.take r.held.length) (hG : GK l0 [] ps r) (he : r.e = 0) : ((stepM r b ps).1 = true → GoOn l0 r.held b r (stepM r b ps).2) ∧ ((stepM r b ps).1 = false → Stops l0 r.held b (stepM r b ps).2) := by
  by_cases h8 : r.held.length = 8
  · rw [step_0h h0 h8]
    dsimp only [GoOn, Stops]
    refine ⟨fun _ => ⟨[], [], rfl, ?_, hG.keep (r' := { r with held := [], st := 1 }) (.inl ⟨by omega, (show (1 : Int) < 3 by decide)⟩), he, ?_⟩, fun h => (by cases h)⟩
    · have h9 := J.j1 (r := { r with held := [], st := 1 }) (D := []) (l := []) rfl .nil (fun x hx => by simp at hx) (by simp)
      rw [h8] at h3
      rw [List.append_nil]
      conv => arg 2; rw [h3]
      exact h9
    · unfold mu
      rw [if_neg (show ¬ ((1 : Int) = 3) by decide), if_neg (show ¬ ((1 : Int) = 0 ∧ _) from fun h => absurd h.1 (by decide)), if_neg (show ¬ r.st = 3 by omega), if_pos (show r.st = 0 ∧ r.held.length = 8 from ⟨h0, h8⟩)]
      omega
  · have h7 : r.held.length < 8 := by omega
    rcases b with _ | ⟨x, b⟩
    · rw [step_0e h0 h8 rfl]
      dsimp only [GoOn, Stops]
      refine ⟨fun h => (by cases h), fun _ => ⟨[], hG.g, .inl ⟨he, ?_, fun _ => h7, fun h => by omega⟩⟩⟩
      rw [List.append_nil]
      exact .j0 h0 h2 h3
    · by_cases hx : x = firstL.getD r.held.length 0
      · rw [step_0a h0 h8 (by simp) (by simpa using hx)]
        dsimp only [GoOn, Stops]
        refine ⟨fun _ => ⟨[x], [], rfl, ?_, hG.keep (.inl ⟨by omega, (show r.st < 3 by omega)⟩), he, ?_⟩, fun h => (by cases h)⟩
        · have h9 := J.j0 (r := { r with held := r.held ++ [x] }) h0 (by show (r.held ++ [x]).length ≤ 8; rw [List.length_append, List.length_singleton]; omega) (takeFirst h3 h7 hx)
          exact h9
        · unfold mu
          simp only [List.length_cons, List.getD_cons_zero, List.drop_succ_cons, List.drop_zero]
          rw [if_neg (show ¬ r.st = 3 by omega)]
          split <;> split <;> omega
      · rw [step_0x h0 h8 (by simp) (by simpa using hx)]
        dsimp only [GoOn, Stops]
        refine ⟨fun h => (by cases h), fun _ => ⟨[], hG.g, .inr ⟨(show (3 : Int) ≠ 0 by decide), of_wrong h3 h7 hx⟩⟩⟩
theorem step_size {D : List Int} (h1 : r.st = 1) (hD : Done D l) (hhb : Bytes r.held) (hh : r.held.length < 4) (hG : GK l0 l ps r) (he : r.e = 0) (hb : Bytes b) (hlen : (firstL ++ D ++ r.held).length + b.length ≤ 900000) : ((stepM r b ps).1 = true → GoOn l0 (firstL ++ D ++ r.held) b r (stepM r b ps).2) ∧ ((stepM r b ps).1 = false → Stops l0 (firstL ++ D ++ r.held) b (stepM r b ps).2) := by
  have hmu3 : ¬ r.st = 3 := by omega
  have hmu0 : ¬ (r.st = 0 ∧ r.held.length = 8) := by omega
  simp only [List.length_append] at hlen
  obtain ⟨kk, hkk⟩ : ∃ kk, min (4 - r.held.length) b.length = kk := ⟨_, rfl⟩
  by_cases h4 : r.held.length + kk = 4
  · obtain ⟨t, u, rfl, htl, e1, e2, e4, hk0⟩ := held4 hh hkk h4
    have htb : Bytes (r.held ++ t) := hhb.app (fun x hx => hb x (List.mem_append_left _ hx))
    by_cases hx : 1048576 < beN (r.held ++ t)
    · have hst := step_1l (ps := ps) rfl hkk h1 h4 (by rw [e1]; exact hx)
      rw [hst]
      dsimp only [GoOn, Stops]
      refine ⟨fun h => (by cases h), fun _ => ⟨l, hG.g, .inr ⟨(show (9 : Int) ≠ 0 by decide), ?_⟩⟩⟩
      rw [show firstL ++ D ++ r.held ++ (t ++ u) = firstL ++ (D ++ ((r.held ++ t) ++ u)) by simp only [List.append_assoc]]
      exact ev_tail hD (by simp only [List.length_append] at hlen ⊢; omega) (tail2 e4 htb hx)
    · have hst := step_1 (ps := ps) rfl hkk h1 h4 (by rw [e1]; exact hx)
      rw [hst, e1, e2]
      dsimp only [GoOn, Stops]
      refine ⟨fun _ => ⟨t, l, rfl, ?_, hG.keep (.inl ⟨by omega, (show (2 : Int) < 3 by decide)⟩), he, ?_⟩, fun h => (by cases h)⟩
      · have h9 := J.j2 (r := { r with held := [], size := beN (r.held ++ t), st := 2 }) (sz := r.held ++ t) rfl hD e4 htb rfl (by show beN (r.held ++ t) ≤ _; omega) (fun x hx => by simp at hx) (by simp)
        simp only [List.append_nil, List.append_assoc] at h9 ⊢
        exact h9
      · unfold mu
        rw [if_neg (show ¬ ((2 : Int) = 3) by decide), if_neg (show ¬ ((2 : Int) = 0 ∧ _) from fun h => absurd h.1 (by decide)), if_neg hmu3, if_neg hmu0]
        simp only [List.length_append]
        omega
  · obtain ⟨e1, e2, e3⟩ := heldS hh hkk h4
    rw [step_h rfl hkk (by omega) (by omega) h4, e1, e2]
    dsimp only [GoOn, Stops]
    refine ⟨fun h => (by cases h), fun _ => ⟨l, hG.g, .inl ⟨he, ?_, fun h => absurd h (show r.st ≠ 0 by omega), fun h => absurd h hmu3⟩⟩⟩
    rw [List.append_assoc (firstL ++ D)]
    exact .j1 h1 hD (hhb.app hb) e3
theorem step_name {D sz : List Int} (h1 : r.st = 2) (hD : Done D l) (hs : sz.length = 4) (hsb : Bytes sz) (hsv : beN sz = r.size) (hsx : r.size ≤ 1048576) (hhb : Bytes r.held) (hh : r.held.length < 4) (hG : GK l0 l ps r) (he : r.e = 0) (hb : Bytes b) (hlen : (firstL ++ D ++ sz ++ r.held).length + b.length ≤ 900000) : ((stepM r b ps).1 = true → GoOn l0 (firstL ++ D ++ sz ++ r.held) b r (stepM r b ps).2) ∧ ((stepM r b ps).1 = false → Stops l0 (firstL ++ D ++ sz ++ r.held) b (stepM r b ps).2) := by
  have hmu3 : ¬ r.st = 3 := by omega
  have hmu0 : ¬ (r.st = 0 ∧ r.held.length = 8) := by omega
  have hsz0 := beN_nonneg hs hsb
  simp only [List.length_append] at hlen
  obtain ⟨kk, hkk⟩ : ∃ kk, min (4 - r.held.length) b.length = kk := ⟨_, rfl⟩
  by_cases h4 : r.held.length + kk = 4
  · obtain ⟨t, u, rfl, htl, e1, e2, e4, hk0⟩ := held4 hh hkk h4
    have htb : Bytes (r.held ++ t) := hhb.app (fun x hx => hb x (List.mem_append_left _ hx))
    cases hx : (r.held ++ t).all letB
    · have hst := step_2x (ps := ps) rfl hkk h1 h4 (by rw [e1]; exact hx)
      rw [hst]
      dsimp only [GoOn, Stops]
      refine ⟨fun h => (by cases h), fun _ => ⟨l, hG.g, .inr ⟨(show (3 : Int) ≠ 0 by decide), ?_⟩⟩⟩
      rw [show firstL ++ D ++ sz ++ r.held ++ (t ++ u) = firstL ++ (D ++ (sz ++ (r.held ++ t) ++ u)) by simp only [List.append_assoc]]
      exact ev_tail hD (by simp only [List.length_append] at hlen ⊢; omega) (tail4 hs hsb (by omega) e4 htb hx)
    · have hst := step_2 (ps := ps) rfl hkk h1 h4 (by rw [e1]; exact hx) rfl rfl
      rw [hst, e1, e2]
      dsimp only [GoOn, Stops]
      refine ⟨fun _ => ⟨t, l ++ [⟨strOfNums (r.held ++ t), r.size, [], false⟩], rfl, ?_, hG.begins (r' := { r with held := [], kind := strOfNums (r.held ++ t), left := r.size, sum := moreN 0 (r.held ++ t), st := 3 }) (by omega) (show (3 : Int) ≤ 3 by decide) rfl rfl, he, ?_⟩, fun h => (by cases h)⟩
      · have h9 := J.j3 (r := { r with held := [], kind := strOfNums (r.held ++ t), left := r.size, sum := moreN 0 (r.held ++ t), st := 3 }) (sz := sz) (kd := r.held ++ t) (dt := []) rfl rfl hD ⟨hs, hsb, hsv, hsx, e4, htb, hx, rfl⟩ (fun x hx => by simp at hx) (by simp) (by show 0 ≤ r.size; omega) (by simp)
        simp only [List.append_nil, List.append_assoc] at h9 ⊢
        exact h9
      · unfold mu
        rw [if_pos (show ((3 : Int) = 3) by decide), if_neg (show ¬ ((3 : Int) = 0 ∧ _) from fun h => absurd h.1 (by decide)), if_neg hmu3, if_neg hmu0]
        simp only [List.length_append]
        omega
  · obtain ⟨e1, e2, e3⟩ := heldS hh hkk h4
    rw [step_h rfl hkk (by omega) (by omega) h4, e1, e2]
    dsimp only [GoOn, Stops]
    refine ⟨fun h => (by cases h), fun _ => ⟨l, hG.g, .inl ⟨he, ?_, fun h => absurd h (show r.st ≠ 0 by omega), fun h => absurd h hmu3⟩⟩⟩
    rw [List.append_assoc (firstL ++ D ++ sz)]
    exact .j2 h1 hD hs hsb hsv hsx (hhb.app hb) e3
theorem step_fill {D sz kd dt : List Int} (h1 : r.st = 3) (hh : r.held = []) (hD : Done D l) (hH : Head sz kd r) (hdb : Bytes dt) (hlf : r.left = r.size - dt.length) (hl0 : 0 ≤ r.left) (hsm : r.sum = moreN 0 (kd ++ dt)) (hG : GK l0 (l ++ [⟨r.kind, r.size, dt, false⟩]) ps r) (he : r.e = 0) (hb : Bytes b) : ((stepM r b ps).1 = true → GoOn l0 (firstL ++ D ++ sz ++ kd ++ dt) b r (stepM r b ps).2) ∧ ((stepM r b ps).1 = false → Stops l0 (firstL ++ D ++ sz ++ kd ++ dt) b (stepM r b ps).2) := by
  have hmu0 : ¬ (r.st = 0 ∧ r.held.length = 8) := by omega
  obtain ⟨kk, hkk⟩ : ∃ kk, min r.left.toNat b.length = kk := ⟨_, rfl⟩
  by_cases hk0 : kk = 0
  · subst hk0
    by_cases hx : 0 < r.left
    · rw [step_3n h1 hkk hx]
      dsimp only [GoOn, Stops]
      have hbl : b = [] := List.length_eq_zero_iff.1 (by omega)
      subst hbl
      refine ⟨fun h => (by cases h), fun _ => ⟨_, hG.g, .inl ⟨he, ?_, fun h => absurd h (show r.st ≠ 0 by omega), fun _ => hx⟩⟩⟩
      rw [List.append_nil]
      exact .j3 h1 hh hD hH hdb hlf hl0 hsm
    · rw [step_3z h1 hkk hx]
      dsimp only [GoOn, Stops]
      refine ⟨fun _ => ⟨[], _, rfl, ?_, hG.keep (r' := { r with st := 4 }) (.inr ⟨by omega, (show (3 : Int) ≤ 4 by decide), rfl, rfl⟩), he, ?_⟩, fun h => (by cases h)⟩
      · have h9 := J.j4 (r := { r with st := 4 }) rfl hD ⟨hH.sl, hH.sb, hH.sv, hH.sx, hH.kl, hH.kb, hH.ka, hH.kk⟩ hdb (by show r.size = _; omega) hsm (by show Bytes r.held; rw [hh]; exact fun x hx => by simp at hx) (by show r.held.length < 4; rw [hh]; simp)
        have h10 : ({ r with st := 4 } : RS).held = [] := hh
        conv at h9 => arg 2; rw [h10]
        exact h9
      · unfold mu
        rw [if_neg (show ¬ ((4 : Int) = 3) by decide), if_neg (show ¬ ((4 : Int) = 0 ∧ _) from fun h => absurd h.1 (by decide)), if_pos h1, if_neg hmu0]
        omega
  · have hkl : kk ≤ b.length := by omega
    obtain ⟨t, u, hbu, htl, e1, e2⟩ : ∃ t u, b = t ++ u ∧ t.length = kk ∧ b.take kk = t ∧ b.drop kk = u := ⟨b.take kk, b.drop kk, (List.take_append_drop _ _).symm, by rw [List.length_take]; omega, rfl, rfl⟩
    have htb : Bytes (dt ++ t) := hdb.app (fun x hx => hb x (by rw [hbu]; exact List.mem_append_left _ hx))
    have hms : moreN r.sum t = moreN 0 (kd ++ (dt ++ t)) := by rw [hsm, moreN_app, List.append_assoc]
    by_cases hx : 0 < r.left - (kk : Int)
    · rw [step_3s h1 hkk hk0 rfl rfl hx, e1, e2]
      dsimp only [GoOn, Stops]
      have hul : u = [] := by
        have : b.length = t.length + u.length := by rw [hbu, List.length_append]
        exact List.length_eq_zero_iff.1 (by omega)
      subst hul
      rw [List.append_nil] at hbu
      subst hbu
      have hG2 := hG.fills (d := b) (r' := { r with sum := moreN r.sum b, left := r.left - (kk : Int) }) (by omega) (by omega) (show 3 ≤ r.st by omega) rfl rfl
      refine ⟨fun h => (by cases h), fun _ => ⟨_, hG2.g, .inl ⟨he, ?_, fun h => absurd h (show r.st ≠ 0 by omega), fun _ => hx⟩⟩⟩
      have h9 := J.j3 (r := { r with sum := moreN r.sum b, left := r.left - (kk : Int) }) h1 hh hD ⟨hH.sl, hH.sb, hH.sv, hH.sx, hH.kl, hH.kb, hH.ka, hH.kk⟩ htb (by show r.left - (kk : Int) = r.size - _; rw [List.length_append]; omega) (by show 0 ≤ r.left - (kk : Int); omega) hms
      rw [← List.append_assoc] at h9
      exact h9
    · rw [step_3d h1 hkk hk0 rfl rfl hx, e1, e2]
      dsimp only [GoOn, Stops]
      have hG2 := hG.fills (d := t) (r' := { r with sum := moreN r.sum t, left := r.left - (kk : Int), st := 4 }) (by omega) (by omega) (show (3 : Int) ≤ 4 by decide) rfl rfl
      refine ⟨fun _ => ⟨t, _, hbu, ?_, hG2, he, ?_⟩, fun h => (by cases h)⟩
      · have h9 := J.j4 (r := { r with sum := moreN r.sum t, left := r.left - (kk : Int), st := 4 }) rfl hD ⟨hH.sl, hH.sb, hH.sv, hH.sx, hH.kl, hH.kb, hH.ka, hH.kk⟩ htb (by show r.size = _; rw [List.length_append]; omega) hms (by show Bytes r.held; rw [hh]; exact fun x hx => by simp at hx) (by show r.held.length < 4; rw [hh]; simp)
        have h10 : ({ r with sum := moreN r.sum t, left := r.left - (kk : Int), st := 4 } : RS).held = [] := hh
        conv at h9 => arg 2; rw [h10, List.append_nil, ← List.append_assoc]
        exact h9
      · unfold mu
        have hbl : b.length = t.length + u.length := by rw [hbu, List.length_append]
        rw [if_neg (show ¬ ((4 : Int) = 3) by decide), if_neg (show ¬ ((4 : Int) = 0 ∧ _) from fun h => absurd h.1 (by decide)), if_pos h1, if_neg hmu0]
        show 2 * u.length + 0 + 0 < _
        omega
theorem step_sum {D sz kd dt : List Int} (h1 : r.st = 4) (hD : Done D l) (hH : Head sz kd r) (hdb : Bytes dt) (hsd : r.size = dt.length) (hsm : r.sum = moreN 0 (kd ++ dt)) (hhb : Bytes r.held) (hh : r.held.length < 4) (hG : GK l0 (l ++ [⟨r.kind, r.size, dt, false⟩]) ps r) (he : r.e = 0) (hb : Bytes b) (hlen : (firstL ++ D ++ sz ++ kd ++ dt ++ r.held).length + b.length ≤ 900000) : ((stepM r b ps).1 = true → GoOn l0 (firstL ++ D ++ sz ++ kd ++ dt ++ r.held) b r (stepM r b ps).2) ∧ ((stepM r b ps).1 = false → Stops l0 (firstL ++ D ++ sz ++ kd ++ dt ++ r.held) b (stepM r b ps).2) := by
  have hmu3 : ¬ r.st = 3 := by omega
  have hmu0 : ¬ (r.st = 0 ∧ r.held.length = 8) := by omega
  have hDl := hD.len
  obtain ⟨n, hn, hn1, hn2⟩ := head_nat hH
  simp only [List.length_append] at hlen
  obtain ⟨kk, hkk⟩ : ∃ kk, min (4 - r.held.length) b.length = kk := ⟨_, rfl⟩
  by_cases h4 : r.held.length + kk = 4
  · obtain ⟨t, u, rfl, htl, e1, e2, e4, hk0⟩ := held4 hh hkk h4
    have htb : Bytes (r.held ++ t) := hhb.app (fun x hx => hb x (List.mem_append_left _ hx))
    have hdn : dt.length = n := by omega
    have hul : u.length ≤ 1000000 := by simp only [List.length_append] at hlen; omega
    have hll : l.length ≤ 1000000 := by omega
    by_cases hx : beN (r.held ++ t) = r.sum
    · have hst := step_4 (ps := ps) rfl hkk h1 h4 rfl (by rw [e1]; exact hx)
      rw [hst, e2]
      dsimp only [GoOn, Stops]
      refine ⟨fun _ => ⟨t, l ++ [⟨r.kind, r.size, dt, true⟩], rfl, ?_, hG.ends (by omega) (show (1 : Int) < 3 by decide), he, ?_⟩, fun h => (by cases h)⟩
      · have hDD := Done.snoc hD hH.sl hH.sb hn2 hn1 hH.kl hH.kb hH.ka hdn hdb e4 htb (by rw [hx, hsm])
        have h9 := J.j1 (r := { r with held := [], st := 1 }) rfl hDD (fun x hx => by simp at hx) (by simp)
        rw [show (⟨r.kind, r.size, dt, true⟩ : S46) = ⟨strOfNums kd, n, dt, true⟩ by rw [hH.kk, hn]]
        simp only [List.append_nil, List.append_assoc] at h9 ⊢
        exact h9
      · unfold mu
        rw [if_neg (show ¬ ((1 : Int) = 3) by decide), if_neg (show ¬ ((1 : Int) = 0 ∧ _) from fun h => absurd h.1 (by decide)), if_neg hmu3, if_neg hmu0]
        simp only [List.length_append]
        omega
    · have hst := step_4x (ps := ps) rfl hkk h1 h4 rfl (by rw [e1]; exact hx)
      rw [hst]
      dsimp only [GoOn, Stops]
      refine ⟨fun h => (by cases h), fun _ => ⟨l ++ [⟨r.kind, r.size, dt, false⟩], hG.g, .inr ⟨(show (4 : Int) ≠ 0 by decide), ?_⟩⟩⟩
      rw [show firstL ++ D ++ sz ++ kd ++ dt ++ r.held ++ (t ++ u) = firstL ++ (D ++ (sz ++ kd ++ dt ++ (r.held ++ t) ++ u)) by simp only [List.append_assoc]]
      refine ev_tail hD (by simp only [List.length_append] at hlen ⊢; omega) ?_
      obtain ⟨K, hK⟩ := tail_K (out := l) (u := u) hH.sl hH.sb hn2 hn1 hH.kl hH.kb hH.ka hdn hdb e4 htb hll hul
      refine ⟨K + 1, fun k hk => ?_⟩
      obtain ⟨j, rfl⟩ : ∃ j, k = j + 1 := ⟨k - 1, by omega⟩
      show halftoneref11_Of.l1 (j + 1) _ _ = _
      rw [hK j (by omega), if_neg (by rw [← hsm]; exact hx), hH.kk, hn]
  · obtain ⟨e1, e2, e3⟩ := heldS hh hkk h4
    rw [step_h rfl hkk (by omega) (by omega) h4, e1, e2]
    dsimp only [GoOn, Stops]
    refine ⟨fun h => (by cases h), fun _ => ⟨_, hG.g, .inl ⟨he, ?_, fun h => absurd h (show r.st ≠ 0 by omega), fun h => absurd h hmu3⟩⟩⟩
    rw [List.append_assoc (firstL ++ D ++ sz ++ kd ++ dt)]
    exact .j4 (r := { r with held := r.held ++ b }) h1 hD ⟨hH.sl, hH.sb, hH.sv, hH.sx, hH.kl, hH.kb, hH.ka, hH.kk⟩ hdb hsd hsm (hhb.app hb) e3
theorem step_ok (hJ : J r c l) (hG : GK l0 l ps r) (he : r.e = 0) (hb : Bytes b) (hlen : c.length + b.length ≤ 900000) : ((stepM r b ps).1 = true → GoOn l0 c b r (stepM r b ps).2) ∧ ((stepM r b ps).1 = false → Stops l0 c b (stepM r b ps).2) := by
  cases hJ with
  | j0 h1 h2 h3 => exact step_sign h1 h2 h3 hG he
  | j1 h1 h2 h3 h4 => exact step_size h1 h2 h3 h4 hG he hb hlen
  | j2 h1 h2 h3 h4 h5 h6 h7 h8 => exact step_name h1 h2 h3 h4 h5 h6 h7 h8 hG he hb hlen
  | j3 h1 h2 h3 h4 h5 h6 h7 h8 => exact step_fill h1 h2 h3 h4 h5 h6 h7 h8 hG he hb
  | j4 h1 h2 h3 h4 h5 h6 h7 h8 => exact step_sum h1 h2 h3 h4 h5 h6 h7 h8 hG he hb hlen
end
/-- Push, all its steps -/
theorem run_ok {l0 : List S46} : ∀ (k : Nat) (r : RS) (c b : List Int) (l : List S46) (ps : List PS), J r c l → GK l0 l ps r → r.e = 0 → Bytes b → c.length + b.length ≤ 900000 → mu r b < k →
    ∃ R psF, runM k r b ps = some (R, psF) ∧ ∃ l', gathM l0 psF = some l' ∧ ((R.e = 0 ∧ J R (c ++ b) l' ∧ Rest R) ∨ (R.e ≠ 0 ∧ Ev (fun k => halftoneref11_Of.f k (c ++ b)) (l', R.e)))
  | 0, _, _, _, _, _, _, _, _, _, _, h => absurd h (Nat.not_lt_zero _)
  | k + 1, r, c, b, l, ps, hJ, hG, he, hb, hlen, hmu => by
    obtain ⟨h1, h2⟩ := step_ok hJ hG he hb hlen
    rcases hs : stepM r b ps with ⟨go, r', b', ps'⟩
    rw [hs] at h1 h2
    unfold runM
    rw [hs]
    cases go with
    | false =>
      obtain ⟨l', hg, h3⟩ := h2 rfl
      exact ⟨r', ps', by simp, l', hg, h3⟩
    | true =>
      obtain ⟨t, l', hbt, hJ', hG', he', hm⟩ := h1 rfl
      have hbt' : b = t ++ b' := hbt
      have hm' : mu r' b' < mu r b := hm
      subst hbt'
      obtain ⟨R, psF, hr, l2, hg, h3⟩ := run_ok k r' (c ++ t) b' l' ps' hJ' hG' he' (fun x hx => hb x (List.mem_append_right _ hx)) (by simp only [List.length_append] at hlen ⊢; omega) (by omega)
      refine ⟨R, psF, by simpa using hr, l2, hg, ?_⟩
      rw [List.append_assoc] at h3
      exact h3
def totP (ps : List PS) : Nat := (ps.map (fun p => p.data.length)).sum
def totS (l : List S46) : Nat := (l.map (fun x => x.f2.length)).sum
theorem totP_app (m n : List PS) : totP (m ++ n) = totP m + totP n := by simp [totP]
theorem totS_app (m n : List S46) : totS (m ++ n) = totS m + totS n := by simp [totS]
theorem totS_mem {l : List S46} {x : S46} (h : x ∈ l) : x.f2.length ≤ totS l := by
  obtain ⟨a, b, rfl⟩ := List.append_of_mem h
  rw [totS_app]
  simp only [totS, List.map_cons, List.sum_cons]
  omega
theorem setNow {f : PS → PS} {d : Nat} (hf : ∀ p, (f p).data.length = p.data.length + d) (ks : ByteArray) (sz : Int) (ps : List PS) : (setL f (nowM ks sz ps)).length ≤ ps.length + 1 ∧ totP (setL f (nowM ks sz ps)) = totP ps + d := by
  obtain ⟨m, p, hm, hl, ht⟩ : ∃ m p, nowM ks sz ps = m ++ [p] ∧ (m ++ [p]).length ≤ ps.length + 1 ∧ totP (m ++ [p]) = totP ps := by
    unfold nowM
    split
    · exact ⟨ps, _, rfl, by simp, by rw [totP_app]; simp [totP]⟩
    · rename_i h
      rcases lastp (ps := ps) with rfl | ⟨i, p, rfl⟩
      · exact absurd (.inl rfl) h
      · exact ⟨i, p, rfl, Nat.le_succ _, rfl⟩
  rw [hm]
  have e : setL f (m ++ [p]) = m ++ [f p] := by
    unfold setL
    rw [lastP_at, List.length_append, List.length_singleton, Nat.add_sub_cancel]
    simp
  rw [e]
  refine ⟨by simpa using hl, ?_⟩
  rw [totP_app] at ht ⊢
  have h1 : totP [f p] = totP [p] + d := by simp [totP, hf]
  omega
def StepB (r : RS) (b : List Int) (ps : List PS) (s : Bool × RS × List Int × List PS) : Prop := s.2.2.2.length ≤ ps.length + 1 ∧ totP s.2.2.2 + s.2.2.1.length ≤ totP ps + b.length ∧ (r.e ≠ 2 → s.2.1.e ≠ 2)
theorem stepB_same {r r' : RS} {b : List Int} {ps : List PS} {go : Bool} (n : Nat) (he : r.e ≠ 2 → r'.e ≠ 2) : StepB r b ps (go, r', b.drop n, ps) :=
  ⟨Nat.le_succ _, by show totP ps + (b.drop n).length ≤ _; rw [List.length_drop]; omega, he⟩
theorem stepB_same0 {r r' : RS} {b : List Int} {ps : List PS} {go : Bool} (he : r.e ≠ 2 → r'.e ≠ 2) : StepB r b ps (go, r', b, ps) := ⟨Nat.le_succ _, Nat.le_refl _, he⟩
theorem stepB_now {r r' : RS} {b : List Int} {ps : List PS} {go : Bool} {ks : ByteArray} {sz : Int} {f : PS → PS} (n : Nat) (hf : ∀ p, (f p).data.length = p.data.length) (he : r'.e = r.e) : StepB r b ps (go, r', b.drop n, setL f (nowM ks sz ps)) := by
  obtain ⟨h1, h2⟩ := setNow (d := 0) (f := f) hf ks sz ps
  exact ⟨h1, by show totP (setL f (nowM ks sz ps)) + (b.drop n).length ≤ _; rw [h2, List.length_drop]; omega, fun h => by show r'.e ≠ 2; rw [he]; exact h⟩
theorem stepB_fill {r r' : RS} {b : List Int} {ps : List PS} {go : Bool} {ks : ByteArray} {sz : Int} (n : Nat) (he : r'.e = r.e) : StepB r b ps (go, r', b.drop n, setL (fun p => { p with data := p.data ++ b.take n }) (nowM ks sz ps)) := by
  obtain ⟨h1, h2⟩ := setNow (d := (b.take n).length) (f := fun p => { p with data := p.data ++ b.take n }) (fun p => List.length_append) ks sz ps
  exact ⟨h1, by show totP (setL (fun p => { p with data := p.data ++ b.take n }) (nowM ks sz ps)) + (b.drop n).length ≤ _; rw [h2, List.length_drop, List.length_take]; omega, fun h => by show r'.e ≠ 2; rw [he]; exact h⟩
theorem step_b (r : RS) (b : List Int) (ps : List PS) : StepB r b ps (stepM r b ps) := by
  unfold stepM
  split
  · split
    · exact stepB_same0 (fun h => h)
    split
    · exact stepB_same0 (fun h => h)
    split
    · exact stepB_same0 (fun _ => by simp)
    · exact stepB_same 1 (fun h => h)
  split
  · split
    · split
      · exact stepB_same0 (fun h => h)
      · exact stepB_same0 (fun h => h)
    · split
      · exact stepB_fill _ rfl
      · exact stepB_fill _ rfl
  split
  · exact stepB_same _ (fun h => h)
  split
  · split
    · exact stepB_same _ (fun _ => by simp)
    · exact stepB_same _ (fun h => h)
  split
  · split
    · exact stepB_same _ (fun _ => by simp)
    · exact stepB_now _ (fun _ => rfl) rfl
  split
  · exact stepB_same _ (fun _ => by simp)
  · exact stepB_now _ (fun _ => rfl) rfl
theorem run_b : ∀ (k : Nat) (r : RS) (b : List Int) (ps : List PS) (R : RS) (psF : List PS), runM k r b ps = some (R, psF) → psF.length ≤ ps.length + k ∧ totP psF ≤ totP ps + b.length ∧ (r.e ≠ 2 → R.e ≠ 2)
  | 0, _, _, _, _, _, h => by cases h
  | k + 1, r, b, ps, R, psF, h => by
    obtain ⟨h1, h2, h3⟩ := step_b r b ps
    unfold runM at h
    split at h
    · obtain ⟨g1, g2, g3⟩ := run_b k _ _ _ R psF h
      exact ⟨by omega, by omega, fun e => g3 (h3 e)⟩
    · have e := Option.some.inj h
      have e1 : (stepM r b ps).2.1 = R := congrArg Prod.fst e
      have e2 : (stepM r b ps).2.2.2 = psF := congrArg Prod.snd e
      rw [e1] at h3
      rw [e2] at h1 h2
      exact ⟨by omega, by omega, h3⟩
theorem gath_b : ∀ (ps : List PS) (l l' : List S46), gathM l ps = some l' → l'.length ≤ l.length + ps.length ∧ totS l' = totS l + totP ps
  | [], l, l', h => by
    obtain rfl := Option.some.inj (show some l = some l' from h)
    exact ⟨Nat.le_refl _, rfl⟩
  | p :: ps, l, l', h => by
    obtain ⟨l2, h1, h2⟩ := Option.bind_eq_some_iff.1 (show (gath1 l p).bind (fun l' => gathM l' ps) = some l' from h)
    obtain ⟨a, b⟩ := gath_b ps l2 l' h2
    obtain ⟨m, x, hb, _, _, _, _, rfl⟩ := gath1_inv h1
    have hl : (m ++ [x]).length ≤ l.length + 1 ∧ totS (m ++ [x]) = totS l := by
      rw [← hb]
      unfold gbase
      split
      · exact ⟨by simp, by rw [totS_app]; simp [totS]⟩
      · exact ⟨Nat.le_succ _, rfl⟩
    have e1 : totP (p :: ps) = p.data.length + totP ps := by simp [totP]
    have e2 : totS (m ++ [(⟨x.f0, x.f1, x.f2 ++ p.data, p.en⟩ : S46)]) = totS (m ++ [x]) + p.data.length := by
      rw [totS_app, totS_app]
      simp [totS]
      omega
    rw [List.length_append, List.length_singleton] at a hl
    rw [List.length_cons]
    exact ⟨by omega, by omega⟩
/-- what the law's loop keeps -/
structure Inv (t : Nat) (r : RS) (all : List Int) (l : List S46) : Prop where
  n2 : r.e ≠ 2
  ln : l.length ≤ 2000 * t
  tl : totS l ≤ 600 * t
  al : all.length ≤ 600 * t
  st : (r.e = 0 ∧ J r all l ∧ Rest r) ∨ (r.e ≠ 0 ∧ Ev (fun k => halftoneref11_Of.f k all) (l, r.e))
theorem Inv.new : Inv 0 RS.new [] [] := ⟨by decide, by simp, by simp [totS], by simp, .inl ⟨rfl, J.j0 rfl (by decide) rfl, ⟨fun _ => by decide, fun h => absurd h (by decide)⟩⟩⟩
theorem Inv.good {t : Nat} {r : RS} {all b : List Int} {l : List S46} (h : Inv t r all l) (he : r.e = 0) (hb : Bytes b) (hl : b.length ≤ 600) (ht : t < 12) :
    ∃ R psF l' f, runM 2000 r b [] = some (R, psF) ∧ gathM l psF = some l' ∧ Inv (t + 1) R (all ++ b) l' ∧ psF.length ≤ 2000 ∧ Ev (fun k => halftoneref11_Of.f k (all ++ b)) (l', f) ∧ (if f = 2 then 0 else f) = R.e ∧ betB R = (f == 0) := by
  obtain ⟨_, hJ, hR⟩ : r.e = 0 ∧ J r all l ∧ Rest r := h.st.resolve_right (fun h => h.1 he)
  have hal := h.al
  obtain ⟨R, psF, h1, l', h2, h3⟩ := run_ok (l0 := l) 2000 r all b l [] hJ ⟨rfl, fun _ i p e => by simp at e, fun _ i p e => by simp at e⟩ he hb (by omega) (by unfold mu; split <;> split <;> omega)
  obtain ⟨b1, b2, b3⟩ := run_b 2000 r b [] R psF h1
  obtain ⟨g1, g2⟩ := gath_b psF l l' h2
  have b2' : totP psF ≤ b.length := by simpa [totP] using b2
  have hla : (all ++ b).length ≤ 600 * (t + 1) := by rw [List.length_append]; omega
  have hln := h.ln
  have htl := h.tl
  simp only [List.length_nil] at b1
  have hI : ∀ s, Inv (t + 1) R (all ++ b) l' := fun s => ⟨b3 h.n2, by omega, by omega, hla, s⟩
  rcases h3 with ⟨e0, j, q⟩ | ⟨e0, j⟩
  · refine ⟨R, psF, l', _, h1, h2, ⟨b3 h.n2, by omega, by omega, hla, .inl ⟨e0, j, q⟩⟩, by omega, rest_of j q (by omega), ?_, ?_⟩
    · rw [e0]; split <;> simp
    · unfold betB
      rw [e0]
      by_cases hs : R.st = 1 ∧ R.held.length = 0
      · rw [if_pos hs, hs.1, hs.2]; rfl
      · rw [if_neg hs]
        by_cases hs1 : R.st = 1
        · have : ¬ R.held.length = 0 := fun e => hs ⟨hs1, e⟩
          simp [hs1, beq_false_of_ne this]
        · simp [beq_false_of_ne hs1, hs1]
  · refine ⟨R, psF, l', R.e, h1, h2, ⟨b3 h.n2, by omega, by omega, hla, .inr ⟨e0, j⟩⟩, by omega, j, if_neg (b3 h.n2), ?_⟩
    unfold betB
    rw [beq_false_of_ne e0]
    rfl
theorem Inv.bad {t : Nat} {r : RS} {all : List Int} {l : List S46} (h : Inv t r all l) (he : r.e ≠ 0) :
    ∃ f, gathM l [] = some l ∧ Inv (t + 1) r all l ∧ Ev (fun k => halftoneref11_Of.f k all) (l, f) ∧ (if f = 2 then 0 else f) = r.e ∧ betB r = (f == 0) := by
  obtain ⟨_, hE⟩ : r.e ≠ 0 ∧ Ev (fun k => halftoneref11_Of.f k all) (l, r.e) := h.st.resolve_left (fun h => he h.1)
  refine ⟨r.e, rfl, ⟨h.n2, by have := h.ln; omega, by have := h.tl; omega, by have := h.al; omega, .inr ⟨he, hE⟩⟩, hE, if_neg h.n2, ?_⟩
  unfold betB
  rw [beq_false_of_ne he]
  rfl
end Go.Proofs.Ytapaodagnpaekaa.Lib
