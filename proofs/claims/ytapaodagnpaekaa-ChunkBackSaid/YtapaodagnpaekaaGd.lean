/- ChunkReads: the law's rows and its reader, event by event. -/
import Derived.Test.YtapaodagnpaekaaGc
import Derived.Test.YtapaodagnpaekaaP4
import Derived.Test.YtapaodagnpaekaaVf
import Derived.Test.YtapaodagnpaekaaVg
import Derived.Test.YtapaodagnpaekaaF4
import Derived.Test.YtapaodagnpaekaaGa
namespace Go.Proofs.Ytapaodagnpaekaa.Lib
open Go.RowKit Go.Proofs.YtapaodagnpaekaaW.PrintWords Go.Proofs.YtapaodagnpaekaaW.PrintLast Go.Proofs.YtapaodagnpaekaaW.PrintMore
set_option linter.unusedVariables false
set_option linter.unusedSimpArgs false
theorem R_st {α : Type} {d : Kd α} {e : TypeId} {W W1 : World} {B : Nat} {ok ok' : Nat → Prop} {v : Value} {xs : List α} (h : Kd.R d e W B ok v xs) (hm : ∀ k, ok k → B ≤ k → k < W.heap.size → (∃ q, q ∈ e :: d.E ∧ ∃ cells, W.heap[k]? = some (.cells cells q (0, 0))) → W1.heap[k]? = W.heap[k]? ∧ ok' k) : Kd.R d e W1 B ok' v xs :=
  Kd.R_mono (Kd.R_step (Kd.R_bound h) (fun k hk _ => (hm k hk.1 hk.2.1 hk.2.2.1 hk.2.2.2).1) |> fun h1 => (show Kd.R d e W1 B (fun k => ok k ∧ B ≤ k ∧ k < W.heap.size ∧ ∃ q, q ∈ e :: d.E ∧ ∃ cells, W.heap[k]? = some (.cells cells q (0, 0))) v xs from h1)) (fun k hk => (hm k hk.1 hk.2.1 hk.2.2.1 hk.2.2.2).2)
theorem Got.st {W W1 : World} {B : Nat} {ok ok' : Nat → Prop} {v : Value} {fs : List Sq} {l : List S46} (h : Got W B ok v fs l) (hm : ∀ k, ok k → B ≤ k → k < W.heap.size → W1.heap[k]? = W.heap[k]? ∧ ok' k) : Got W1 B ok' v fs l :=
  ⟨R_st h.row (fun k a b c _ => hm k a b c), h.len, fun j hj => by obtain ⟨h1, h2, h3, h4⟩ := h.at_ j hj; exact ⟨h1, h2, h3, R_st h4 (fun k a b c _ => hm k a b c)⟩, h.apart⟩
/-- the reader, all bytes and the chunks; n0, n1: between them lies the part's copy -/
structure LI (W : World) (B n0 n1 g : Nat) (hv v4 v5 : Value) (r : RS) (all : List Int) (fs : List Sq) (l : List S46) : Prop where
  rd : IsRd W B g hv r
  ok : RsOk r
  gl : g < n0
  hl : ∀ k, hv.ownBlock = some k → k < n0 ∨ n1 ≤ k
  al : Kd.R (Kd.int .u8) 5 W B (fun k => some k ≠ hv.ownBlock) v4 all
  a4 : ∀ k, v4.ownBlock = some k → k < n0 ∨ n1 ≤ k
  gt : Got W B (fun k => k < n0 ∧ k ≠ g ∧ some k ≠ hv.ownBlock ∧ some k ≠ v4.ownBlock) v5 fs l
theorem R_ob {W W1 : World} {B : Nat} {ok ok' : Nat → Prop} {v : Value} {xs : List Int} (h : Kd.R (Kd.int .u8) 5 W B ok v xs) (hm : ∀ k, v.ownBlock = some k → ok k → W1.heap[k]? = W.heap[k]? ∧ ok' k) : Kd.R (Kd.int .u8) 5 W1 B ok' v xs :=
  Kd.R_of_own (own_move (Kd.own_of_R h) (fun k e => (hm k e (h.1 k e)).1)) (fun k e => (hm k e (h.1 k e)).2)
section
variable {W W1 W2 : World} {B n0 n1 g : Nat} {hv hv' v4 v4' v5 v5' ov : Value} {r R : RS} {all all' : List Int} {fs fs' : List Sq} {l l' : List S46} {pcs : List Pc} {psF : List PS}
theorem LI.step (h : LI W B n0 n1 g hv v4 v5 r all fs l) (hm : ∀ k, B ≤ k → (k < n0 ∨ n1 ≤ k) → k < W.heap.size → W1.heap[k]? = W.heap[k]?) : LI W1 B n0 n1 g hv v4 v5 r all fs l :=
  ⟨⟨(hm g h.rd.ge (.inl h.gl) (blk_lt h.rd.blk)).trans h.rd.blk, R_ob h.rd.row (fun k e _ => ⟨hm k (Kd.R_base h.rd.row k e) (h.hl k e) (Kd.R_lt h.rd.row k e), trivial⟩), h.rd.ge⟩, h.ok, h.gl, h.hl, R_ob h.al (fun k e o => ⟨hm k (Kd.R_base h.al k e) (h.a4 k e) (Kd.R_lt h.al k e), o⟩), h.a4, h.gt.st (fun k a b c => ⟨hm k b (.inl a.1) c, a⟩)⟩
theorem LI.below (h : LI W B n0 n1 g hv v4 v5 r all fs l) (hb : Below W.heap.size W W1) : LI W1 B n0 n1 g hv v4 v5 r all fs l := h.step (fun k _ _ hk => hb.block k hk)
theorem LI.head (hrd : IsRd W B g hv r) (hok : RsOk r) (hal : Kd.R (Kd.int .u8) 5 W B (fun k => some k ≠ hv.ownBlock) v4 all) (hgt : Got W B (fun k => k ≠ g ∧ some k ≠ hv.ownBlock ∧ some k ≠ v4.ownBlock) v5 fs l) : LI W B W.heap.size W.heap.size g hv v4 v5 r all fs l :=
  ⟨hrd, hok, blk_lt hrd.blk, fun k e => .inl (Kd.R_lt hrd.row k e), hal, fun k e => .inl (Kd.R_lt hal k e), hgt.st (fun k a b c => ⟨rfl, c, a⟩)⟩
theorem LI.start (h : LI W B W.heap.size W.heap.size g hv v4 v5 r all fs l) (hb : Below W.heap.size W W1) : LI W1 B W.heap.size W1.heap.size g hv v4 v5 r all fs l :=
  have h1 := h.below hb
  ⟨h1.rd, h1.ok, h.gl, fun k e => .inl (Kd.R_lt h.rd.row k e), h1.al, fun k e => .inl (Kd.R_lt h.al k e), h1.gt⟩
theorem LI.push (h : LI W B n0 W.heap.size g hv v4 v5 r all fs l) (hk : Kept W W1 (RdS g hv)) (hrd : IsRd W1 B g hv' R) (hok : RsOk R) (hvb : hv'.ownBlock = none ∨ hv'.ownBlock = hv.ownBlock ∨ ∃ b, hv'.ownBlock = some b ∧ W.heap.size ≤ b) : LI W1 B n0 W.heap.size g hv' v4 v5 R all fs l := by
  have nh : ∀ k, k < W.heap.size → some k ≠ hv.ownBlock → some k ≠ hv'.ownBlock := by
    intro k hlt hne e
    rcases hvb with h1 | h1 | ⟨b, h1, h2⟩
    · rw [h1] at e; cases e
    · exact hne (e.trans h1)
    · rw [h1] at e
      obtain rfl := Option.some.inj e
      omega
  refine ⟨hrd, hok, h.gl, ?_, R_ob h.al (fun k e o => ?_), h.a4, h.gt.st (fun k a b c => ⟨hk.2 k c ?_, a.1, a.2.1, nh k c a.2.2.1, a.2.2.2⟩)⟩
  · intro k e
    rcases hvb with h1 | h1 | ⟨b, h1, h2⟩
    · rw [h1] at e; cases e
    · exact h.hl k (h1.symm.trans e)
    · rw [h1] at e
      obtain rfl := Option.some.inj e
      exact .inr h2
  · have hlt := Kd.R_lt h.al k e
    refine ⟨hk.2 k hlt ?_, nh k hlt o⟩
    rintro (rfl | e2)
    · exact Kd.R_ne h.al h.rd.blk (by decide) e.symm
    · exact o e2.symm
  · rintro (rfl | e2)
    · exact a.2.1 rfl
    · exact a.2.2.1 e2.symm
theorem LI.copy_far {v9 : Value} {part : List Int} (h : LI W B n0 W.heap.size g hv v4 v5 r all fs l) (hO : Kd.R (Kd.int .u8) 5 W n0 (fun _ => True) v9 part) : ∀ k, v9.ownBlock = some k → ¬ RdS g hv k := by
  intro k e
  have h1 := Kd.R_base hO k e
  have h2 := Kd.R_lt hO k e
  rintro (rfl | e2)
  · have := h.gl; omega
  · rcases h.hl k e2 with h3 | h3 <;> omega
theorem LI.copy_push {v9 : Value} {part : List Int} (h : LI W B n0 W.heap.size g hv v4 v5 r all fs l) (hO : Kd.R (Kd.int .u8) 5 W n0 (fun _ => True) v9 part) (hk : Kept W W1 (RdS g hv)) : Kd.R (Kd.int .u8) 5 W1 n0 (fun _ => True) v9 part :=
  R_ob hO (fun k e _ => ⟨hk.2 k (Kd.R_lt hO k e) (h.copy_far hO k e), trivial⟩)
theorem LI.turned {v9 : Value} (h : LI W B n0 n1 g hv v4 v5 r all fs l) (h9 : ∀ k, v9.ownBlock = some k → n0 ≤ k ∧ k < n1) (hk : Kept W W1 (fun k => v9.ownBlock = some k)) : LI W1 B n0 n1 g hv v4 v5 r all fs l :=
  h.step (fun k _ a c => hk.2 k c (fun e => by have := h9 k e; omega))
theorem LI.app (h : LI W B n0 n1 g hv v4 v5 r all fs l) (hn : n1 ≤ W.heap.size) (hR : Kd.R (Kd.int .u8) 5 W1 B (fun k => some k ≠ hv.ownBlock) v4' all') (hg : W.grownBy W1 v4.ownBlock) (hat : v4'.ownBlock = v4.ownBlock ∨ ∃ b, v4'.ownBlock = some b ∧ W.heap.size ≤ b) : LI W1 B n0 n1 g hv v4' v5 r all' fs l := by
  have hk : Kept W W1 (fun k => v4.ownBlock = some k) := kept_grown hg (fun k e => e)
  refine ⟨⟨(hk.2 g (blk_lt h.rd.blk) (fun e => Kd.R_ne h.al h.rd.blk (by decide) e.symm)).trans h.rd.blk, R_ob h.rd.row (fun k e _ => ⟨hk.2 k (Kd.R_lt h.rd.row k e) (fun e2 => h.al.1 k e2 e.symm), trivial⟩), h.rd.ge⟩, h.ok, h.gl, h.hl, hR, ?_, h.gt.st (fun k a b c => ⟨hk.2 k c (fun e => a.2.2.2 e.symm), a.1, a.2.1, a.2.2.1, ?_⟩)⟩
  · intro k e
    rcases hat with h1 | ⟨b, h1, h2⟩
    · exact h.a4 k (h1.symm.trans e)
    · rw [h1] at e
      obtain rfl := Option.some.inj e
      exact .inr (by omega)
  · intro e
    rcases hat with h1 | ⟨b, h1, h2⟩
    · exact a.2.2.2 (e.trans h1)
    · rw [h1] at e
      obtain rfl := Option.some.inj e
      omega
/-- the blocks that gather may write -/
def okG (n0 g : Nat) (hv v4 : Value) : Nat → Prop := fun k => k < n0 ∧ k ≠ g ∧ some k ≠ hv.ownBlock ∧ some k ≠ v4.ownBlock
theorem LI.gather (h : LI W B n0 n1 g hv v4 v5 r all fs l) (hk : Kept W W1 (okG n0 g hv v4)) (hgt : Got W1 B (okN (okG n0 g hv v4) W) v5' fs' l') : LI W1 B W1.heap.size W1.heap.size g hv v4 v5' r all fs' l' := by
  refine LI.head ⟨(hk.2 g (blk_lt h.rd.blk) (fun a => a.2.1 rfl)).trans h.rd.blk, R_ob h.rd.row (fun k e _ => ⟨hk.2 k (Kd.R_lt h.rd.row k e) (fun a => a.2.2.1 e.symm), trivial⟩), h.rd.ge⟩ h.ok (R_ob h.al (fun k e o => ⟨hk.2 k (Kd.R_lt h.al k e) (fun a => a.2.2.2 e.symm), o⟩)) (hgt.mono (fun k a b c => ?_))
  rcases a with a | a
  · exact ⟨a.2.1, a.2.2.1, a.2.2.2⟩
  · refine ⟨fun e => ?_, fun e => ?_, fun e => ?_⟩
    · have := blk_lt h.rd.blk; omega
    · have := Kd.R_lt h.rd.row k e.symm; omega
    · have := Kd.R_lt h.al k e.symm; omega
/-- the pieces that Push told -/
structure Pcs (W : World) (n1 : Nat) (hv ov : Value) (pcs : List Pc) (psF : List PS) : Prop where
  out : Kd.R kp 53 W n1 (fun _ => True) ov pcs
  dat : Dat W n1 hv pcs psF
theorem Pcs.step (h : Pcs W n1 hv ov pcs psF) (hm : ∀ k, n1 ≤ k → k < W.heap.size → W1.heap[k]? = W.heap[k]?) : Pcs W1 n1 hv ov pcs psF :=
  ⟨R_st h.out (fun k _ b c _ => ⟨hm k b c, trivial⟩), h.dat.len, fun j hj => by obtain ⟨a, b, c, d, e⟩ := h.dat.at_ j hj; exact ⟨a, b, c, d, R_st e (fun k o b c _ => ⟨hm k b c, o⟩)⟩⟩
theorem Pcs.nil (W : World) (n1 : Nat) (hv : Value) : Pcs W n1 hv (.slice none 0 0) [] [] := ⟨Kd.R_nil _ _ _ _ _, rfl, fun j h => by simp at h⟩
theorem Pcs.at_ {Ap : Option Addr} {n c : Nat} {S : Nat → Prop} (h : Pcs W n1 hv (.slice Ap n c) pcs psF) (hS : ∀ k, S k → k < n1) : psF.length = n ∧ ∀ t, t < n → ∃ go pA pn pc, ∀ W', Kept W W' S → PcR W' Ap t (psF.getD t zs) go pA pn pc := by
  obtain ⟨A, c1, e1⟩ := Kd.R_slice h.out
  injection e1 with e1 e2 e3
  have hn : pcs.length = n := e2.symm
  refine ⟨h.dat.len.symm.trans hn, fun t ht => ?_⟩
  obtain ⟨go, c2, e4, _⟩ := rowA_form hn (by omega) h.out
  injection e4 with e5 _ _
  subst e5
  refine ⟨go, (pcs.getD t zp).A, (pcs.getD t zp).n, (pcs.getD t zp).c, fun W' hk => ?_⟩
  have h1 := h.step (W1 := W') (fun k a b => hk.2 k b (fun s => by have := hS k s; omega))
  have h2 := pc_at h1.out t ht
  obtain ⟨a, b, c3, d, e⟩ := h1.dat.at_ t (by rw [← h.dat.len, hn]; exact ht)
  obtain ⟨f1, f2, f3⟩ := Kd.R_reads' e
  exact ⟨rfl, by rw [← a]; exact h2.1.1, by rw [← b]; exact h2.1.2.1, h2.1.2.2.1, by rw [← c3]; exact h2.1.2.2.2.1, by rw [← d]; exact h2.1.2.2.2.2, by rw [f1]; exact f3⟩
end
theorem new_li {w w1 : World} (hb : Below w.heap.size w w1) : Calls Try.prog 9 #[] w1 fun e w2 => ∃ g, e = .returned (.pointer (some ⟨g, 0, none⟩)) ∧ LI w2 w.heap.size w2.heap.size w2.heap.size g (.slice none 0 0) (.slice none 0 0) (.slice none 0 0) RS.new [] [] [] ∧ Below w.heap.size w w2 := by
  refine (fx_new w1 w.heap.size hb.size).mono ?_
  rintro e w2 ⟨g, rfl, _, h, hb2⟩
  exact ⟨g, rfl, LI.head h new_ok (Kd.R_nil _ _ _ _ _) (Got.nil _ _ _), below_then hb hb.size hb2⟩
theorem push_li {W : World} {B n0 g : Nat} {hv v4 v5 : Value} {r R : RS} {all part : List Int} {fs : List Sq} {l : List S46} {psF : List PS} {A9 : Option Addr} {c9 m : Nat} (h : LI W B n0 W.heap.size g hv v4 v5 r all fs l) (hB : B ≤ W.heap.size) (hO : Kd.R (Kd.int .u8) 5 W n0 (fun _ => True) (.slice A9 m c9) part) (hby : Bytes part) (hm : part.length = m) (hm6 : m ≤ 600) (hs : (r.e = 0 ∧ runM 2000 r part [] = some (R, psF)) ∨ (r.e ≠ 0 ∧ R = r ∧ psF = [])) :
    Calls Try.prog 10 #[.pointer (some ⟨g, 0, none⟩), .slice A9 m c9] W fun e w' => ∃ hv' Ap N cp pcs, e = .returned (.tuple #[.slice Ap N cp, .int .i64 R.e]) ∧ LI w' B n0 W.heap.size g hv' v4 v5 R all fs l ∧ Pcs w' W.heap.size hv' (.slice Ap N cp) pcs psF ∧ Kd.R (Kd.int .u8) 5 w' n0 (fun _ => True) (.slice A9 m c9) part ∧ Below B W w' ∧ W.heap.size ≤ w'.heap.size := by
  rcases hs with ⟨he, hrun⟩ | ⟨he, rfl, rfl⟩
  · refine (push_walk h.rd hB h.ok he A9 m c9 part hm (Kd.R_reads' hO).2.1 (C_keptR hm hO (h.copy_far hO)) hby (by omega) 2000 (by omega) hrun).mono ?_
    rintro e w' ⟨hv', ov, pcs, rfl, P⟩
    obtain ⟨Ap, cp, rfl⟩ := Kd.R_slice P.out
    exact ⟨hv', Ap, _, cp, pcs, rfl, h.push P.kp P.rd P.ok P.hvb, ⟨P.out, P.dat⟩, h.copy_push hO P.kp, P.bl, P.kp.1⟩
  · refine (push_e h.rd he A9 m c9).mono ?_
    rintro e w' ⟨rfl, hb⟩
    exact ⟨hv, none, 0, 0, [], rfl, h.below hb, Pcs.nil _ _ _, Kd.R_below hO hb, hb.mono hB, hb.size⟩
theorem Inv.any {t : Nat} {r : RS} {all b : List Int} {l : List S46} (h : Inv t r all l) (hb : Bytes b) (hl : b.length ≤ 600) (ht : t < 12) :
    ∃ R psF l' all' f kk, ((r.e = 0 ∧ runM 2000 r b [] = some (R, psF)) ∨ (r.e ≠ 0 ∧ R = r ∧ psF = [])) ∧ all' = (if r.e = 0 then all ++ b else all) ∧ gathM l psF = some l' ∧ Inv (t + 1) R all' l' ∧ psF.length ≤ 2000 ∧ halftoneref11_Of.f kk all' = some (l', f) ∧ (if f = 2 then 0 else f) = R.e ∧ betB R = (f == 0) := by
  by_cases he : r.e = 0
  · obtain ⟨R, psF, l', f, h1, h2, h3, h4, h5, h6, h7⟩ := h.good he hb hl ht
    obtain ⟨kk, hk⟩ := h5.rounds
    exact ⟨R, psF, l', _, f, kk, .inl ⟨he, h1⟩, rfl, h2, by rw [if_pos he]; exact h3, h4, by rw [if_pos he]; exact hk, h6, h7⟩
  · obtain ⟨f, h2, h3, h5, h6, h7⟩ := h.bad he
    obtain ⟨kk, hk⟩ := h5.rounds
    exact ⟨r, [], l, _, f, kk, .inr ⟨he, rfl, rfl⟩, rfl, h2, by rw [if_neg he]; exact h3, Nat.zero_le _, by rw [if_neg he]; exact hk, h6, h7⟩
theorem between_q {W : World} {n₀ g : Nat} {hv : Value} {r : RS} (h : IsRd W n₀ g hv r) (j : Nat) : Calls Try.prog 12 #[.pointer (some ⟨g, 0, none⟩)] (W.drewN j) fun e w' => e = .returned (.bool (betB r)) ∧ ∃ k, w' = W.drewN k := by
  refine (between_walk (h.ext (pw_below_drewN (Below.refl _ _) j))).mono ?_
  rintro e w' ⟨he, rfl⟩
  exact ⟨he, j, rfl⟩
theorem between_qb {W : World} {n₀ g : Nat} {hv : Value} {r : RS} {b : Bool} (h : IsRd W n₀ g hv r) (hb : betB r = b) (j : Nat) : Calls Try.prog 12 #[.pointer (some ⟨g, 0, none⟩)] (W.drewN j) fun e w' => e = .returned (.bool b) ∧ ∃ k, w' = W.drewN k := hb ▸ between_q h j
theorem same46_q {W : World} {A B : Option Addr} {n c d : Nat} {l : List S46} (hl : l.length = n) (hA : Kd.C k46 W A n l) (hB : Kd.C k46 W B n l) (hn : n ≤ 1000000) (j : Nat) : Calls Try.prog 14 #[.slice A n c, .slice B n d] (W.drewN j) fun e w' => e = .returned (.bool true) ∧ ∃ k, w' = W.drewN k := by
  refine Calls.quiet_of ((same_walk A B n c d l (W.drewN j) hl (Kd.C_drewN hA j) (Kd.C_drewN hB j) hn).mono ?_)
  rintro e w' ⟨he, ⟨k, rfl⟩⟩
  exact ⟨he, k, rfl⟩
theorem part_at {w W : World} {A0 : Option Addr} {n t : Nat} {L : List (List Int)} (h : Kd.C (Kd.slice 5 (Kd.int .u8)) w A0 n L) (hb : Below w.heap.size w W) (ht : t < n) :
    ∃ ad Ap cp, A0 = some ad ∧ W.cell? (ad.add t) = some (.slice Ap (L.getD t []).length cp) ∧ (∀ W', Below w.heap.size w W' → Kd.C (Kd.int .u8) W' Ap (L.getD t []).length (L.getD t [])) := by
  obtain ⟨ad, cs, rfl, _, hKp, hcell⟩ := Kd.C_get h [] (t : Int) (by omega) (by omega)
  obtain ⟨Ap, cp, rfl, hcp, hCp⟩ := hKp
  have hx := hcell 0 _ rfl
  have e1 : (Kd.slice 5 (Kd.int .u8)).sz = 1 := rfl
  rw [e1] at hx
  simp only [Int.toNat_natCast, Nat.mul_one, Nat.add_zero] at hx hCp hcp
  exact ⟨ad, Ap, cp, rfl, pw_cell_below hb hx, fun W' hb' => Kd.C_below hCp hb'⟩
end Go.Proofs.Ytapaodagnpaekaa.Lib
