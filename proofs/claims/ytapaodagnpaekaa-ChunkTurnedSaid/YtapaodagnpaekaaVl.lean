/- chunk: Push: lemmas for naming, filling, summing. -/
import Derived.Test.YtapaodagnpaekaaV9
namespace Go.Proofs.Ytapaodagnpaekaa.Lib
open Go.RowKit Go.Proofs.YtapaodagnpaekaaW.PrintWords Go.Proofs.YtapaodagnpaekaaW.PrintLast Go.Proofs.YtapaodagnpaekaaW.PrintMore
attribute [local go_sem] max2_mx min2_mn max_two min_two
set_option linter.unusedVariables false
set_option linter.unusedSimpArgs false
section
variable {w W : World} {n₀ g : Nat} {hv0 hv ov : Value} {r R : RS} {pcs : List Pc} {ps psF : List PS} {k k1 : Nat} {b : List Int} {A' : Option Addr} {m c kk : Nat}
/-- a piece's data, when a piece's other field is written -/
theorem PI.data_set {go co p j : Nat} (h : PI w W n₀ g hv0 hv (.slice (some ⟨go, 0, none⟩) (p + 1) co) r pcs ps) (hl : pcs.length = p + 1) (u : Value) : Kd.R (Kd.int .u8) 5 (W.setCell ⟨go, p * 5 + j, none⟩ u) w.heap.size (fun k => some k ≠ hv.ownBlock) (.slice (pcs.getD p zp).A (pcs.getD p zp).n (pcs.getD p zp).c) (ps.getD p zs).data := by
  obtain ⟨cs2, hgo⟩ := Kd.R_typed h.out go rfl
  have hlp : p < ps.length := by rw [← h.dat.len, hl]; omega
  exact Kd.R_set (h.dat.at_ p hlp).2.2.2.2 hgo (by decide) _ u
/-- the last piece's begin is set -/
theorem PI.begin {go co p : Nat} (h : PI w W n₀ g hv0 hv (.slice (some ⟨go, 0, none⟩) (p + 1) co) r pcs ps) (hl : pcs.length = p + 1) :
    PI w (W.setCell ⟨go, p * 5 + 3, none⟩ (.bool true)) n₀ g hv0 hv (.slice (some ⟨go, 0, none⟩) (p + 1) co) r (pcs.set p { pcs.getD p zp with bg := true }) (ps.set p { ps.getD p zs with bg := true }) := by
  have hlp : p < ps.length := by rw [← h.dat.len, hl]; omega
  obtain ⟨h1, h2, h3, h4, h5⟩ := h.dat.at_ p hlp
  exact h.setp hl 3 (by decide) (.bool true) { pcs.getD p zp with bg := true } rfl { ps.getD p zs with bg := true } ⟨h1, h2, rfl, h4⟩ (h.data_set hl _)
/-- the last piece's end is set -/
theorem PI.ending {go co p : Nat} (h : PI w W n₀ g hv0 hv (.slice (some ⟨go, 0, none⟩) (p + 1) co) r pcs ps) (hl : pcs.length = p + 1) :
    PI w (W.setCell ⟨go, p * 5 + 4, none⟩ (.bool true)) n₀ g hv0 hv (.slice (some ⟨go, 0, none⟩) (p + 1) co) r (pcs.set p { pcs.getD p zp with en := true }) (ps.set p { ps.getD p zs with en := true }) := by
  have hlp : p < ps.length := by rw [← h.dat.len, hl]; omega
  obtain ⟨h1, h2, h3, h4, h5⟩ := h.dat.at_ p hlp
  exact h.setp hl 4 (by decide) (.bool true) { pcs.getD p zp with en := true } rfl { ps.getD p zs with en := true } ⟨h1, h2, h3, rfl⟩ (h.data_set hl _)
/-- what region 28 reads -/
theorem pi_nam {A4 : Option Addr} {c4 : Nat} {ks : ByteArray} (h : PI w W n₀ g hv0 (.slice A4 4 c4) ov r pcs ps) (hl : r.held.length = 4) (hk : strOfNums r.held = ks) :
    W.cell? ⟨w.heap.size, 0, none⟩ = some (.pointer (some ⟨g, 0, none⟩)) ∧ W.cell? ⟨g, 1, none⟩ = some (.slice A4 4 c4) ∧ W.cell? ⟨g, 3, none⟩ = some (.int .i64 r.size) ∧ (convert 26 9 (.slice A4 4 c4)).run Try.prog W = .ok (.string ks) W := by
  refine ⟨blk_cell h.x2 0, blk_cell h.rd.blk 1, blk_cell h.rd.blk 3, ?_⟩
  subst hk
  have h1 := (Kd.R_reads' h.rd.row).2.2
  exact Kd.C_string (P := Try.prog) (e := 5) Try.underlying26 Try.underlying5 Try.underlying9 (by rw [← hl]; exact h1)
/-- the crc of the kind -/
theorem of_nam {A4 : Option Addr} {c4 : Nat} {held : List Int} (W : World) (bk : Nat) (hb : W.heap.size = bk) (hl : held.length = 4) (hbs : Bytes held) (hc : 4 ≤ c4) (hC : Kd.C (Kd.int .u8) W A4 4 held) {sm : Int} (hs : moreN 0 held = sm) :
    Calls Try.prog 24 #[.slice (some ⟨bk, 0, none⟩) 1 1] (W.alloc (.cells #[.slice A4 4 c4] 26)) fun e w' => e = .returned (.int .u32 sm) ∧ Drawn0 (W.alloc (.cells #[.slice A4 4 c4] 26)) w' := by
  subst hs
  have hC2 := C_one_at (x := held) (A := A4) (e := 26) (m := (0, 0)) hb (c := c4) (by omega) (by rw [hl]; exact hC)
  rw [hl] at hC2
  have h := of_any (some ⟨bk, 0, none⟩) 1 1 [held] (W.alloc (.cells #[.slice A4 4 c4] 26)) (fun p hp => by
    simp at hp
    subst hp
    exact hbs) (fun p hp => by
    simp at hp
    subst hp
    omega) rfl (by omega) hC2 (Nat.le_refl _)
  simpa using h
theorem step_2x {hl : Nat} (hhl : r.held.length = hl) (hkk : min (4 - hl) b.length = kk) (h1 : r.st = 2) (h4 : hl + kk = 4) (hx : (r.held ++ b.take kk).all letB = false) : stepM r b ps = (false, { r with held := r.held ++ b.take kk, e := 3 }, b.drop kk, ps) := by
  unfold stepM
  rw [hhl, hkk, if_neg (by omega), if_neg (by omega), if_neg (by omega), if_neg (by omega), if_pos h1, if_pos hx]
theorem step_2 {hl : Nat} {ks : ByteArray} {sm : Int} (hhl : r.held.length = hl) (hkk : min (4 - hl) b.length = kk) (h1 : r.st = 2) (h4 : hl + kk = 4) (hx : (r.held ++ b.take kk).all letB = true) (hks : strOfNums (r.held ++ b.take kk) = ks) (hsm : moreN 0 (r.held ++ b.take kk) = sm) : stepM r b ps = (true, { r with held := [], kind := ks, left := r.size, sum := sm, st := 3 }, b.drop kk, setL (fun p => { p with bg := true }) (nowM ks r.size ps)) := by
  unfold stepM
  rw [hhl, hkk, if_neg (by omega), if_neg (by omega), if_neg (by omega), if_neg (by omega), if_pos h1, if_neg (by rw [hx]; decide), hks, hsm]
theorem getD_set_self {α : Type} {l : List α} {p : Nat} {x d : α} (h : p < l.length) : (l.set p x).getD p d = x := by
  rw [List.getD_eq_getElem?_getD, List.getElem?_set_self h]
  rfl
theorem bytes_drop {l : List Int} (h : Bytes l) (n : Nat) : Bytes (l.drop n) := fun x hx => h x (List.mem_of_mem_drop hx)
theorem at_2 {go co p : Nat} {ks : ByteArray} {sm : Int} {held' : List Int} (hq : runM (k1 + 1) r b ps = some (R, psF)) (hkk : pcs.length + (k1 + 1) ≤ k)
    (hI : PI w W n₀ g hv0 hv (.slice (some ⟨go, 0, none⟩) (p + 1) co) { { { { r with held := held' } with kind := ks } with left := r.size } with sum := sm } ((nowL ks r.size pcs).set p { (nowL ks r.size pcs).getD p zp with bg := true }) ((nowM ks r.size ps).set p { (nowM ks r.size ps).getD p zs with bg := true }))
    (hlen : (nowL ks r.size pcs).length = p + 1) (hn : Nil3 r.st pcs) (hst : stepM r b ps = (true, { r with held := [], kind := ks, left := r.size, sum := sm, st := 3 }, b.drop kk, setL (fun p => { p with bg := true }) (nowM ks r.size ps))) (hkm : kk ≤ m) (hmc : m ≤ c) (hms : m ≤ 1000000) (hbl : b.length = m) (hCb : ∀ W', Kept w W' (RdS g hv0) → Kd.C (Kd.int .u8) W' A' (m - kk) (b.drop kk)) (hbb : Bytes b) (h1 : r.st = 2) :
    AtR w ((W.setCell ⟨g, 1, none⟩ (.slice none 0 0)).setCell ⟨g, 0, none⟩ (.int .i64 3)).drew n₀ g hv0 k k1 R psF (b.drop kk) A' (m - kk) (c - kk) := by
  have hlp : (nowM ks r.size ps).length = p + 1 := by
    have h2 := hI.dat.len
    rw [List.length_set, List.length_set] at h2
    omega
  have hq2 := run_go hst hq
  rw [setL_eq hlp] at hq2
  refine ⟨_, _, _, _, _, hq2, ?_, (hI.set1.set0 3 (by omega) (by simp)).drew, ?_, by omega, by omega, by rw [List.length_drop, hbl], hCb, bytes_drop hbb _⟩
  · have := nowL_len ks r.size pcs
    rw [List.length_set]
    omega
  · intro q hql
    rw [List.length_set, hlen] at hql
    have : q = p := by omega
    subst this
    rw [getD_set_self (by omega)]
    exact ⟨fun h => absurd h (show ¬ (3 : Int) < 3 by decide), fun _ _ => nowL_nil r.st hn (by omega) hlen⟩
theorem step_4x {hl : Nat} {sz : Int} (hhl : r.held.length = hl) (hkk : min (4 - hl) b.length = kk) (h1 : r.st = 4) (h4 : hl + kk = 4) (hsz : beN (r.held ++ b.take kk) = sz) (hx : sz ≠ r.sum) : stepM r b ps = (false, { r with held := r.held ++ b.take kk, e := 4 }, b.drop kk, ps) := by
  unfold stepM
  rw [hhl, hkk, if_neg (by omega), if_neg (by omega), if_neg (by omega), if_neg (by omega), if_neg (by omega), if_pos (by rw [hsz]; exact hx)]
theorem step_4 {hl : Nat} {sz : Int} (hhl : r.held.length = hl) (hkk : min (4 - hl) b.length = kk) (h1 : r.st = 4) (h4 : hl + kk = 4) (hsz : beN (r.held ++ b.take kk) = sz) (hx : sz = r.sum) : stepM r b ps = (true, { r with held := [], st := 1 }, b.drop kk, setL (fun p => { p with en := true }) (nowM r.kind r.size ps)) := by
  unfold stepM
  rw [hhl, hkk, if_neg (by omega), if_neg (by omega), if_neg (by omega), if_neg (by omega), if_neg (by omega), if_neg (by rw [hsz]; exact fun h => h hx)]
theorem at_4 {go co p : Nat} {held' : List Int} (hq : runM (k1 + 1) r b ps = some (R, psF)) (hkk : pcs.length + (k1 + 1) ≤ k)
    (hI : PI w W n₀ g hv0 hv (.slice (some ⟨go, 0, none⟩) (p + 1) co) { r with held := held' } ((nowL r.kind r.size pcs).set p { (nowL r.kind r.size pcs).getD p zp with en := true }) ((nowM r.kind r.size ps).set p { (nowM r.kind r.size ps).getD p zs with en := true }))
    (hlen : (nowL r.kind r.size pcs).length = p + 1) (hst : stepM r b ps = (true, { r with held := [], st := 1 }, b.drop kk, setL (fun p => { p with en := true }) (nowM r.kind r.size ps))) (hkm : kk ≤ m) (hmc : m ≤ c) (hms : m ≤ 1000000) (hbl : b.length = m) (hCb : ∀ W', Kept w W' (RdS g hv0) → Kd.C (Kd.int .u8) W' A' (m - kk) (b.drop kk)) (hbb : Bytes b) :
    AtR w ((W.setCell ⟨g, 1, none⟩ (.slice none 0 0)).setCell ⟨g, 0, none⟩ (.int .i64 1)).drew n₀ g hv0 k k1 R psF (b.drop kk) A' (m - kk) (c - kk) := by
  have hlp : (nowM r.kind r.size ps).length = p + 1 := by
    have h2 := hI.dat.len
    rw [List.length_set, List.length_set] at h2
    omega
  have hq2 := run_go hst hq
  rw [setL_eq hlp] at hq2
  refine ⟨_, _, _, _, _, hq2, ?_, (hI.set1.set0 1 (by omega) (by simp)).drew, ?_, by omega, by omega, by rw [List.length_drop, hbl], hCb, bytes_drop hbb _⟩
  · have := nowL_len r.kind r.size pcs
    rw [List.length_set]
    omega
  · intro q hql
    rw [List.length_set, hlen] at hql
    have : q = p := by omega
    subst this
    rw [getD_set_self (by omega)]
    exact ⟨fun _ => rfl, fun h => absurd h (show (1 : Int) ≠ 3 by decide)⟩
theorem fact_fill {l : Int} {m k : Nat} (h0 : 0 ≤ l) (hk : min l.toNat m = k) : mn l (m : Int) = (k : Int) := by
  unfold mn
  split <;> omega
theorem step_3n (h1 : r.st = 3) (hk : min r.left.toNat b.length = 0) (hx : 0 < r.left) : stepM r b ps = (false, r, b, ps) := by
  unfold stepM
  rw [if_neg (by omega), if_pos h1, if_pos hk, if_pos hx]
theorem step_3z (h1 : r.st = 3) (hk : min r.left.toNat b.length = 0) (hx : ¬ 0 < r.left) : stepM r b ps = (true, { r with st := 4 }, b, ps) := by
  unfold stepM
  rw [if_neg (by omega), if_pos h1, if_pos hk, if_neg hx]
theorem step_3s {lf sm : Int} (h1 : r.st = 3) (hk : min r.left.toNat b.length = kk) (hk0 : kk ≠ 0) (hlf : r.left - (kk : Int) = lf) (hsm : moreN r.sum (b.take kk) = sm) (hx : 0 < lf) : stepM r b ps = (false, { r with sum := sm, left := lf }, b.drop kk, setL (fun p => { p with data := p.data ++ b.take kk }) (nowM r.kind r.size ps)) := by
  unfold stepM
  rw [hk, if_neg (by omega), if_pos h1, if_neg hk0, hlf, if_pos hx, hsm]
theorem step_3d {lf sm : Int} (h1 : r.st = 3) (hk : min r.left.toNat b.length = kk) (hk0 : kk ≠ 0) (hlf : r.left - (kk : Int) = lf) (hsm : moreN r.sum (b.take kk) = sm) (hx : ¬ 0 < lf) : stepM r b ps = (true, { r with sum := sm, left := lf, st := 4 }, b.drop kk, setL (fun p => { p with data := p.data ++ b.take kk }) (nowM r.kind r.size ps)) := by
  unfold stepM
  rw [hk, if_neg (by omega), if_pos h1, if_neg hk0, hlf, if_neg hx, hsm]
/-- the last piece's bytes, none ahead -/
theorem PI.fill {go co p k8 c8 : Nat} {A8 : Option Addr} {W8 : World} {x : List Int} (h : PI w W n₀ g hv0 hv (.slice (some ⟨go, 0, none⟩) (p + 1) co) r pcs ps) (hl : pcs.length = p + 1) (hnil : (pcs.getD p zp).A = none ∧ (pcs.getD p zp).n = 0 ∧ (pcs.getD p zp).c = 0) (hb : Below W.heap.size W W8) (hR : Kd.R (Kd.int .u8) 5 W8 W.heap.size (fun _ => True) (.slice A8 k8 c8) x) :
    PI w (W8.setCell ⟨go, p * 5 + 2, none⟩ (.slice A8 k8 c8)) n₀ g hv0 hv (.slice (some ⟨go, 0, none⟩) (p + 1) co) r (pcs.set p { pcs.getD p zp with A := A8, n := k8, c := c8 }) (ps.set p { ps.getD p zs with data := (ps.getD p zs).data ++ x }) := by
  have hlp : p < ps.length := by rw [← h.dat.len, hl]; omega
  obtain ⟨h1, h2, h3, h4, h5⟩ := h.dat.at_ p hlp
  rw [hnil.1, hnil.2.1, hnil.2.2] at h5
  have h6 : (ps.getD p zs).data = [] := List.length_eq_zero_iff.1 (Kd.R_reads' h5).1.symm
  have h7 := h.ext hb
  obtain ⟨cs2, hgo⟩ := Kd.R_typed h7.out go rfl
  refine h7.setp hl 2 (by decide) (.slice A8 k8 c8) { pcs.getD p zp with A := A8, n := k8, c := c8 } rfl { ps.getD p zs with data := (ps.getD p zs).data ++ x } ⟨h1, h2, h3, h4⟩ ?_
  show Kd.R (Kd.int .u8) 5 _ w.heap.size _ (.slice A8 k8 c8) ((ps.getD p zs).data ++ x)
  rw [h6, List.nil_append]
  refine Kd.R_reok rfl (Kd.R_lower (Kd.R_set hR hgo (by decide) _ _) h.kp.1) (fun k hk e => ?_)
  have h8 := Kd.R_base hR k hk
  have h9 := Kd.R_lt h.rd.row k e.symm
  omega
theorem more_fill {A1 : Option Addr} {m1 c1 : Nat} {sm : Int} (hsr : 0 ≤ r.sum ∧ r.sum < 4294967296) (hbl : b.length = m1) (hbb : Bytes b) (hkm : kk ≤ m1) (hmc : m1 ≤ c1) (hm : m1 ≤ 1000000) (hsm : moreN r.sum (b.take kk) = sm) (hCb : ∀ W', Kept w W' (RdS g hv0) → Kd.C (Kd.int .u8) W' A1 m1 b) (W' : World) (hW : Kept w W' (RdS g hv0)) :
    Calls Try.prog 25 #[.int .u32 r.sum, .slice A1 kk c1] W' fun e w' => e = .returned (.int .u32 sm) ∧ Drawn0 W' w' := by
  subst hsm hbl
  have h1 := Kd.C_take (hCb W' hW) (m := kk) hkm
  rw [List.length_take, Nat.min_eq_left hkm] at h1
  exact more_any r.sum A1 kk c1 (b.take kk) W' hsr (fun x hx => hbb x (List.mem_of_mem_take hx)) (by rw [List.length_take]; omega) h1 (by omega) (by omega)
theorem at_3z (hq : runM (k1 + 1) r b ps = some (R, psF)) (hkk : pcs.length + (k1 + 1) ≤ k) (hI : PI w W n₀ g hv0 hv ov r pcs ps) (hst : stepM r b ps = (true, { r with st := 4 }, b, ps)) (hmc : m ≤ c) (hms : m ≤ 1000000) (hbl : b.length = m) (hCb : ∀ W', Kept w W' (RdS g hv0) → Kd.C (Kd.int .u8) W' A' m b) (hbb : Bytes b) (h1 : r.st = 3) :
    AtR w (W.setCell ⟨g, 0, none⟩ (.int .i64 4)) n₀ g hv0 k k1 R psF b A' m c :=
  ⟨_, _, _, _, _, run_go hst hq, by omega, hI.set0 4 (by omega) (fun _ => hI.ok.hl.2 (by omega)), fun q _ => ⟨fun h => absurd h (show ¬ (4 : Int) < 3 by decide), fun h => absurd h (show (4 : Int) ≠ 3 by decide)⟩, by omega, by omega, hbl, hCb, hbb⟩
theorem at_3d {go co p k8 c8 : Nat} {A8 : Option Addr} {lf sm : Int} (hq : runM (k1 + 1) r b ps = some (R, psF)) (hkk : pcs.length + (k1 + 1) ≤ k)
    (hI : PI w W n₀ g hv0 hv (.slice (some ⟨go, 0, none⟩) (p + 1) co) { { r with sum := sm } with left := lf } ((nowL r.kind r.size pcs).set p { (nowL r.kind r.size pcs).getD p zp with A := A8, n := k8, c := c8 }) ((nowM r.kind r.size ps).set p { (nowM r.kind r.size ps).getD p zs with data := ((nowM r.kind r.size ps).getD p zs).data ++ b.take kk }))
    (hlen : (nowL r.kind r.size pcs).length = p + 1) (hst : stepM r b ps = (true, { r with sum := sm, left := lf, st := 4 }, b.drop kk, setL (fun p => { p with data := p.data ++ b.take kk }) (nowM r.kind r.size ps))) (hkm : kk ≤ m) (hmc : m ≤ c) (hms : m ≤ 1000000) (hbl : b.length = m) (hCb : ∀ W', Kept w W' (RdS g hv0) → Kd.C (Kd.int .u8) W' A' (m - kk) (b.drop kk)) (hbb : Bytes b) (h1 : r.st = 3) :
    AtR w (W.setCell ⟨g, 0, none⟩ (.int .i64 4)) n₀ g hv0 k k1 R psF (b.drop kk) A' (m - kk) (c - kk) := by
  have hlp : (nowM r.kind r.size ps).length = p + 1 := by
    have h2 := hI.dat.len
    rw [List.length_set, List.length_set] at h2
    omega
  have hq2 := run_go hst hq
  rw [setL_eq hlp] at hq2
  refine ⟨_, _, _, _, _, hq2, ?_, hI.set0 4 (by omega) (fun _ => hI.ok.hl.2 (show r.st ≠ 0 by omega)), fun q _ => ⟨fun h => absurd h (show ¬ (4 : Int) < 3 by decide), fun h => absurd h (show (4 : Int) ≠ 3 by decide)⟩, by omega, by omega, by rw [List.length_drop, hbl], hCb, bytes_drop hbb _⟩
  have := nowL_len r.kind r.size pcs
  rw [List.length_set]
  omega
theorem pi_data {go co p : Nat} (h : PI w W n₀ g hv0 hv (.slice (some ⟨go, 0, none⟩) (p + 1) co) r pcs ps) (hl : pcs.length = p + 1) (hn : (pcs.getD p zp).A = none ∧ (pcs.getD p zp).n = 0 ∧ (pcs.getD p zp).c = 0) : W.cell? ⟨go, p * 5 + 2, none⟩ = some (.slice none 0 0) ∧ W.frozen? ⟨go, p * 5 + 2, none⟩ = false := by
  have h1 := pc_at h.out p (by omega)
  have h2 := h1.1.2.2.1
  rw [hn.1, hn.2.1, hn.2.2] at h2
  exact ⟨h2, h1.2 2⟩
theorem setL_now {go co p : Nat} {f : Pc → Pc} {f2 : PS → PS} (hI : PI w W n₀ g hv0 hv (.slice (some ⟨go, 0, none⟩) (p + 1) co) r ((nowL r.kind r.size pcs).set p (f ((nowL r.kind r.size pcs).getD p zp))) ((nowM r.kind r.size ps).set p (f2 ((nowM r.kind r.size ps).getD p zs)))) (hlen : (nowL r.kind r.size pcs).length = p + 1) : setL f2 (nowM r.kind r.size ps) = (nowM r.kind r.size ps).set p (f2 ((nowM r.kind r.size ps).getD p zs)) := by
  refine setL_eq ?_
  have h2 := hI.dat.len
  rw [List.length_set, List.length_set] at h2
  omega
end
end Go.Proofs.Ytapaodagnpaekaa.Lib
