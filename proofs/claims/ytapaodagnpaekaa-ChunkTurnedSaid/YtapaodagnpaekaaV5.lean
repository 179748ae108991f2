/- chunk: the piece at hand: walked by hand. -/
import Derived.Test.YtapaodagnpaekaaV4
namespace Go.Proofs.Ytapaodagnpaekaa.Lib
open Go.RowKit Go.Proofs.YtapaodagnpaekaaW.PrintWords Go.Proofs.YtapaodagnpaekaaW.PrintLast Go.Proofs.YtapaodagnpaekaaW.PrintMore
attribute [local go_sem] max2_mx min2_mn max_two min_two
set_option linter.unusedVariables false
set_option linter.unusedSimpArgs false
theorem rowA_form {α : Type} {d : Kd α} {e : Nat} {W : World} {base : Nat} {ok : Nat → Prop} {v : Value} {xs : List α} {n : Nat} (hl : xs.length = n) (hp : 0 < n) (h : Kd.R d e W base ok v xs) : ∃ g c, v = .slice (some ⟨g, 0, none⟩) n c ∧ Kd.R d e W base ok (.slice (some ⟨g, 0, none⟩) n c) xs := by
  obtain ⟨g, c, rfl, _⟩ := Kd.R_form h (by omega)
  subst hl
  exact ⟨g, c, rfl, h⟩
/-- a piece as it lies -/
structure Pc where
  kind : ByteArray
  size : Int
  A : Option Addr
  n : Nat
  c : Nat
  bg : Bool
  en : Bool
def zp : Pc := ⟨⟨#[]⟩, 0, none, 0, 0, false, false⟩
def ksl : Kd (Option Addr × Nat × Nat) := Kd.scalar (fun t => .slice t.1 t.2.1 t.2.2) (fun _ => rfl)
def kp : Kd Pc := Kd.iso (Kd.pair Kd.string (Kd.pair (Kd.int .i64) (Kd.pair ksl (Kd.pair Kd.bool Kd.bool)))) (fun x => (x.kind, x.size, (x.A, x.n, x.c), x.bg, x.en))
def Pc.cells (x : Pc) : List Value := [.string x.kind, .int .i64 x.size, .slice x.A x.n x.c, .bool x.bg, .bool x.en]
theorem kp_open {w : World} {x : Pc} {cs : List Value} (h : kp.K w x cs) : cs = x.cells := by
  obtain ⟨_, _, rfl, rfl, ⟨_, _, rfl, rfl, ⟨_, _, rfl, rfl, ⟨_, _, rfl, rfl, rfl⟩⟩⟩⟩ := h
  exact rfl
theorem kp_openM {w : World} {base : Nat} {ok : Nat → Prop} {x : Pc} {cs : List Value} (h : kp.M w base ok x cs) : cs = x.cells := by
  obtain ⟨_, _, rfl, rfl, ⟨_, _, rfl, rfl, ⟨_, _, rfl, rfl, ⟨_, _, rfl, rfl, rfl⟩⟩⟩⟩ := h
  exact rfl
theorem kp_mkM (w : World) (base : Nat) (ok : Nat → Prop) (x : Pc) : kp.M w base ok x x.cells := ⟨[_], [_, _, _, _], rfl, rfl, ⟨[_], [_, _, _], rfl, rfl, ⟨[_], [_, _], rfl, rfl, ⟨[_], [_], rfl, rfl, rfl⟩⟩⟩⟩
theorem info53_ : (Try.prog.info? 53).map (fun i => (i.zero, i.size, i.bytes)) = some (some (.agg #[.string ⟨#[]⟩, .int .i64 0, .slice none 0 0, .bool false, .bool false]), 5, 56) := by kernel_rfl
/-- a piece's cells -/
theorem pc_at {W : World} {base go n co : Nat} {ok : Nat → Prop} {pcs : List Pc} (h : Kd.R kp 53 W base ok (.slice (some ⟨go, 0, none⟩) n co) pcs) (i : Nat) (hi : i < n) :
    (W.cell? ⟨go, i * 5, none⟩ = some (.string (pcs.getD i zp).kind) ∧ W.cell? ⟨go, i * 5 + 1, none⟩ = some (.int .i64 (pcs.getD i zp).size) ∧ W.cell? ⟨go, i * 5 + 2, none⟩ = some (.slice (pcs.getD i zp).A (pcs.getD i zp).n (pcs.getD i zp).c) ∧ W.cell? ⟨go, i * 5 + 3, none⟩ = some (.bool (pcs.getD i zp).bg) ∧ W.cell? ⟨go, i * 5 + 4, none⟩ = some (.bool (pcs.getD i zp).en)) ∧ ∀ j, W.frozen? ⟨go, i * 5 + j, none⟩ = false := by
  obtain ⟨cs, hl, hM, hc, hf⟩ := Kd.R_elem h zp (i : Int) (by omega) (by omega)
  have e4 : kp.sz = 5 := rfl
  rw [e4] at hc hf
  simp only [Int.toNat_natCast] at hM hc hf
  obtain rfl := kp_openM hM
  exact ⟨⟨by simpa using hc 0 _ rfl, by simpa using hc 1 _ rfl, by simpa using hc 2 _ rfl, by simpa using hc 3 _ rfl, by simpa using hc 4 _ rfl⟩, hf⟩
/-- a piece's field is written -/
theorem pc_set {W : World} {base go n co : Nat} {ok : Nat → Prop} {pcs : List Pc} (h : Kd.R kp 53 W base ok (.slice (some ⟨go, 0, none⟩) n co) pcs) (i : Nat) (hi : i < n) (j : Nat) (hj : j < 5) (u : Value) (x' : Pc) (hx : x'.cells = ((pcs.getD i zp).cells.take j ++ [u] ++ (pcs.getD i zp).cells.drop (j + 1))) :
    Kd.R kp 53 (W.setCell ⟨go, i * 5 + j, none⟩ u) base ok (.slice (some ⟨go, 0, none⟩) n co) (pcs.set i x') := by
  obtain ⟨cs, hl, hM, hc, hf⟩ := Kd.R_elem h zp (i : Int) (by omega) (by omega)
  have e4 : kp.sz = 5 := rfl
  rw [e4] at hc
  simp only [Int.toNat_natCast] at hM hc
  obtain rfl := kp_openM hM
  have h2 := (Kd.R_seg (okp := fun k => False) h (i : Int) (by omega) (by omega) (seg := [u]) (j := j) hl (by rw [e4]; exact hc) (by rw [e4]; simp; omega) (x' := x') (by
    show kp.M _ _ _ x' ((pcs.getD i zp).cells.take j ++ [u] ++ (pcs.getD i zp).cells.drop (j + 1))
    rw [← hx]
    exact kp_mkM _ _ _ _) (fun k hk => hk.elim)).1
  rw [e4] at h2
  simpa [World.setCells] using h2
/-- the pieces with one that is open at the end -/
def nowL (kind : ByteArray) (size : Int) (pcs : List Pc) : List Pc := if pcs = [] ∨ (pcs.getD (pcs.length - 1) zp).en = true then pcs ++ [⟨kind, size, none, 0, 0, false, false⟩] else pcs
/-- what now tells -/
def NowP (W : World) (B b6 : Nat) (ov : Value) (pcs' : List Pc) (e : Ending) (w' : World) : Prop :=
  ∃ go co p, e = .returned (.pointer (some ⟨go, p * 5, none⟩)) ∧ pcs'.length = p + 1 ∧ w'.heap[b6]? = some (.cells #[.slice (some ⟨go, 0, none⟩) (p + 1) co] 28 (0, 0)) ∧ Kd.R kp 53 w' B (fun _ => True) (.slice (some ⟨go, 0, none⟩) (p + 1) co) pcs' ∧
    Kept W w' (fun k => k = b6 ∨ ov.ownBlock = some k) ∧ Below B W w'
set_option maxHeartbeats 2000000 in
set_option maxRecDepth 100000 in
theorem now_nil {W : World} {B b6 b2 g : Nat} {ov hv : Value} {r : RS} {pcs : List Pc} (hB : B ≤ b6 ∧ b6 < W.heap.size ∧ B ≤ W.heap.size) (h6 : W.heap[b6]? = some (.cells #[ov] 28 (0, 0))) (h2 : W.heap[b2]? = some (.cells #[.pointer (some ⟨g, 0, none⟩)] 24 (0, 0))) (hg : W.heap[g]? = some (.cells #[.int .i64 r.st, hv, .string r.kind, .int .i64 r.size, .int .i64 r.left, .int .u32 r.sum, .int .i64 r.e] 59 (0, 0))) (hr : Kd.R kp 53 W B (fun _ => True) ov pcs) (hs : pcs.length ≤ 1000000) (hn : pcs.length = 0) :
    Calls Try.prog 20 #[.pointer (some ⟨b6, 0, none⟩), .pointer (some ⟨b2, 0, none⟩)] W fun e w' => NowP W B b6 ov (pcs ++ [⟨r.kind, r.size, none, 0, 0, false, false⟩]) e w' := by
  have HB := Aside0.mk hB
  have hc6 := blk_cell h6 0
  have hf6 := blk_frozen h6 0
  have hc2 := blk_cell h2 0
  have hg2 := blk_cell hg 2
  have hg3 := blk_cell hg 3
  have H6 := Aside0.mk h6
  have H2 := Aside0.mk h2
  have HG := Aside0.mk hg
  have HR := Aside0.mk hr
  have HZ := Aside0.mk (show (pcs.length + 1) * 56 ≤ 140737488355328 from by omega)
  have HLS := Aside0.mk (show (pcs ++ [(⟨r.kind, r.size, none, 0, 0, false, false⟩ : Pc)]).length = 0 + 1 from by simp [hn])
  obtain ⟨Ao, co, rfl⟩ := Kd.R_slice hr
  rw [hn] at hc6 H6 HR ⊢
  clear hB h6 h2 hg hr hn hs
  go_enter Try.func20, Try.ntmps20
  go_wp2
  refine start_ (n := 13) (S := fun w' => w'.cell? ⟨b6, 0, none⟩ = some (Value.slice Ao 0 co) ∧ w'.cell? ⟨b2, 0, none⟩ = some (.pointer (some ⟨g, 0, none⟩)) ∧ w'.cell? ⟨g, 2, none⟩ = some (.string r.kind) ∧ w'.cell? ⟨g, 3, none⟩ = some (.int .i64 r.size)) (ds := [12]) #[false, false, false, false, false, false, false, false, false, false, false, false, false] (by kernel_rfl) rfl rfl ⟨hc6, hc2, hg2, hg3⟩ (fun hHeld => ?_)
  have HR4 := Aside0.mk (Kd.R_drew HR.out)
  have HX6 := Aside0.mk (blk_drew H6.out)
  have HX2 := Aside0.mk (blk_drew H2.out)
  have HXG := Aside0.mk (blk_drew HG.out)
  have HN4 := Aside0.mk (show B ≤ W.drew.heap.size from HB.out.2.2)
  have HKW := Aside0.mk (show Kept W W.drew (fun k => k = b6 ∨ (Value.slice Ao 0 co).ownBlock = some k) from Kept.of_below (below_drew (Below.refl _ _)) _)
  have HBW := Aside0.mk (show Below B W W.drew from below_drew (Below.refl _ _))
  generalize W.drew = W4 at hHeld HR4 HX6 HX2 HXG HN4 HKW HBW ⊢
  refine take_ (i := 0) (N := some 15) (v := ?_) (a' := ?_) #[true, false, false, false, false, false, false, false, false, false, false, false, false] rfl rfl (by kernel_rfl) (fun _ _ _ h => h) (Or.inl ⟨by rfl, ?_⟩) hHeld ?_ ?_
  rotate_left
  · rintro w' ⟨s0, s1, s2, s3⟩
    go_simp
    with_reducible rfl
  rotate_left
  · simp only [Act.put, List.setIfInBounds_toArray, List.set_cons_zero, List.set_cons_succ, i64_w, i32_w]
    rfl
  refine take_ (i := 1) (N := some 16) (v := ?_) (a' := ?_) #[true, true, false, false, false, false, false, false, false, false, false, false, false] rfl rfl (by kernel_rfl) (fun _ _ _ h => h) (Or.inl ⟨by rfl, ?_⟩) hHeld ?_ ?_
  rotate_left
  · rintro w' ⟨s0, s1, s2, s3⟩
    go_simp
    with_reducible rfl
  rotate_left
  · simp only [Act.put, List.setIfInBounds_toArray, List.set_cons_zero, List.set_cons_succ, i64_w, i32_w]
    rfl
  refine take_ (i := 5) (N := some 20) (v := ?_) (a' := ?_) #[true, true, false, false, false, true, false, false, false, false, false, false, false] rfl rfl (by kernel_rfl) (fun _ _ _ h => h) (Or.inl ⟨by rfl, ?_⟩) hHeld ?_ ?_
  rotate_left
  · rintro w' ⟨s0, s1, s2, s3⟩
    go_simp
    with_reducible rfl
  rotate_left
  · simp only [Act.put, List.setIfInBounds_toArray, List.set_cons_zero, List.set_cons_succ, i64_w, i32_w]
    rfl
  refine pure_ (i := 2) (N := some 17) (v := ?_) (a' := ?_) #[true, true, true, false, false, true, false, false, false, false, false, false, false] rfl rfl (by kernel_rfl) (fun _ _ _ h => h) (Or.inl ⟨by rfl, ?_⟩) ?_ ?_
  rotate_left
  · intro w'
    go_simp
    with_reducible rfl
  rotate_left
  · simp only [Act.put, List.setIfInBounds_toArray, List.set_cons_zero, List.set_cons_succ, i64_w, i32_w]
    rfl
  refine pure_ (i := 3) (N := some 18) (v := ?_) (a' := ?_) #[true, true, true, true, false, true, false, false, false, false, false, false, false] rfl rfl (by kernel_rfl) (fun _ _ _ h => h) (Or.inl ⟨by rfl, ?_⟩) ?_ ?_
  rotate_left
  · intro w'
    go_simp
    with_reducible rfl
  rotate_left
  · simp only [Act.put, List.setIfInBounds_toArray, List.set_cons_zero, List.set_cons_succ, i64_w, i32_w]
    rfl
  refine pure_ (i := 6) (N := some 21) (v := ?_) (a' := ?_) #[true, true, true, true, false, true, true, false, false, false, false, false, false] rfl rfl (by kernel_rfl) (fun _ _ _ h => h) (Or.inl ⟨by rfl, ?_⟩) ?_ ?_
  rotate_left
  · intro w'
    go_simp
    with_reducible rfl
  rotate_left
  · simp only [Act.put, List.setIfInBounds_toArray, List.set_cons_zero, List.set_cons_succ, i64_w, i32_w]
    rfl
  refine pure_ (i := 7) (N := some 22) (v := ?_) (a' := ?_) #[true, true, true, true, false, true, true, true, false, false, false, false, false] rfl rfl (by kernel_rfl) (fun _ _ _ h => h) (Or.inl ⟨by rfl, ?_⟩) ?_ ?_
  rotate_left
  · intro w'
    go_simp
    with_reducible rfl
  rotate_left
  · simp only [Act.put, List.setIfInBounds_toArray, List.set_cons_zero, List.set_cons_succ, i64_w, i32_w]
    rfl
  refine take_ (i := 4) (N := some 19) (v := ?_) (a' := ?_) #[true, true, true, true, true, true, true, true, false, false, false, false, false] rfl rfl (by kernel_rfl) (fun _ _ _ h => h) (Or.inl ⟨by rfl, ?_⟩) hHeld ?_ ?_
  rotate_left
  · rintro w' ⟨s0, s1, s2, s3⟩
    go_simp
    with_reducible rfl
  rotate_left
  · simp only [Act.put, List.setIfInBounds_toArray, List.set_cons_zero, List.set_cons_succ, i64_w, i32_w]
    rfl
  refine take_ (i := 8) (N := some 23) (v := ?_) (a' := ?_) #[true, true, true, true, true, true, true, true, true, false, false, false, false] rfl rfl (by kernel_rfl) (fun _ _ _ h => h) (Or.inl ⟨by rfl, ?_⟩) hHeld ?_ ?_
  rotate_left
  · rintro w' ⟨s0, s1, s2, s3⟩
    go_simp
    with_reducible rfl
  rotate_left
  · simp only [Act.put, List.setIfInBounds_toArray, List.set_cons_zero, List.set_cons_succ, i64_w, i32_w]
    rfl
  refine pure_ (i := 9) (N := some 24) (v := ?_) (a' := ?_) #[true, true, true, true, true, true, true, true, true, true, false, false, false] rfl rfl (by kernel_rfl) (fun _ _ _ h => h) (Or.inl ⟨by rfl, ?_⟩) ?_ ?_
  rotate_left
  · intro w'
    go_simp
    with_reducible rfl
  rotate_left
  · simp only [Act.put, List.setIfInBounds_toArray, List.set_cons_zero, List.set_cons_succ, i64_w, i32_w]
    rfl
  have hAl : Below W4.heap.size W4 (W4.alloc (.cells #[.string r.kind, .int .i64 r.size, .slice none 0 0, .bool false, .bool false] 53)) := (Below.refl _ _).alloc (Nat.le_refl _) _
  refine one_ (i := 10) (N := some 25) #[true, true, true, true, true, true, true, true, true, true, true, false, false] rfl rfl (by kernel_rfl) (by decide) (fun K hK => ?_)
  refine value_ (w1 := ?_) (v := ?_) (by rfl) rfl ?_ ?_
  rotate_left 2
  · go_simp
    constructor
    · rfl
    · rfl
  refine hK.out _ _ ⟨pw_cell_below hAl hHeld.1, pw_cell_below hAl hHeld.2.1, pw_cell_below hAl hHeld.2.2.1, pw_cell_below hAl hHeld.2.2.2⟩ (fun hHeld2 => ?_)
  clear hK K
  refine norm_ (a' := ?_) ?_ ?_
  rotate_left
  · show Act.put _ (some 25) _ = _
    simp only [Act.put, List.setIfInBounds_toArray, List.set_cons_zero, List.set_cons_succ, i64_w, i32_w]
    rfl
  refine one_ (i := 11) (N := some 26) #[true, true, true, true, true, true, true, true, true, true, true, true, false] rfl rfl (by kernel_rfl) (by decide) (fun K hK => ?_)
  refine Kd.R_append_step kp (w0 := W4) (W := W4) B (by rfl) (.tmp 15) (.tmp 25) 28 53 (.agg #[.string ⟨#[]⟩, .int .i64 0, .slice none 0 0, .bool false, .bool false]) 56 rfl Try.underlying28 info53_ rfl (by decide) (by omega) (Value.slice Ao 0 co) pcs ⟨r.kind, r.size, none, 0, 0, false, false⟩ [.string r.kind, .int .i64 r.size, .slice none 0 0, .bool false, .bool false] (fun _ => True) (fun _ => False) (by rfl) (by rfl) (kp_mkM _ _ _ _) (fun _ hk => hk.elim) (fun _ _ => trivial) HR4.out (Below.refl _ _) HN4.out HZ.out ?_
  intro v11 w11 ho hb11 hg hat
  obtain ⟨go, c11, rfl, hr11⟩ := rowA_form HLS.out (by omega) ho
  have hx6 := blk_grown HX6.out hg (Kd.R_ne HR4.out HX6.out (by decide))
  have hx2 := blk_grown HX2.out hg (Kd.R_ne HR4.out HX2.out (by decide))
  have hxg := blk_grown HXG.out hg (Kd.R_ne HR4.out HXG.out (by decide))
  have hm0 := blk_cell hx6 0
  have hm0f := blk_frozen hx6 0
  refine hK.out _ _ ⟨blk_cell hx6 0, blk_cell hx2 0, blk_cell hxg 2, blk_cell hxg 3⟩ (fun hHeld3 => ?_)
  clear hK K
  refine norm_ (a' := ?_) ?_ ?_
  rotate_left
  · show Act.put _ (some 26) _ = _
    simp only [Act.put, List.setIfInBounds_toArray, List.set_cons_zero, List.set_cons_succ, i64_w, i32_w]
    rfl
  refine last_ (i := 12) (N := none) #[true, true, true, true, true, true, true, true, true, true, true, true, true] rfl rfl (by kernel_rfl) (by decide) (fun K hK => ?_)
  refine skip_ (w1 := ?_) (by rfl) rfl ?_ ?_
  rotate_left
  · go_simp
    rfl
  refine hK.out _ _ ?_
  clear hK K
  refine done_ (by kernel_rfl) ?_
  have hx7 := blk_set hx6 0 (.slice (some ⟨go, 0, none⟩) (0 + 1) c11)
  have HX7 := Aside0.mk hx7
  have hq7 := blk_cell hx7 0
  have hcast : ((0 + 1 : Nat) : Int) - 1 = ((0 : Nat) : Int) := by omega
  have HFIN := Aside0.mk (show NowP W B b6 (Value.slice Ao 0 co) (pcs ++ [⟨r.kind, r.size, none, 0, 0, false, false⟩]) (.returned (.pointer (some ⟨go, 0 * 5, none⟩))) (w11.setCell ⟨b6, 0, none⟩ (.slice (some ⟨go, 0, none⟩) (0 + 1) c11)) from
    ⟨go, c11, 0, rfl, HLS.out, by simpa using hx7, Kd.R_set hr11 hx6 (by decide) 0 _, kept_set (HKW.out.then_ (kept_grown hg (S := fun k => k = b6 ∨ (Value.slice Ao 0 co).ownBlock = some k) (fun k hk => .inr hk)) (fun k hk => .inl hk)) (p := ⟨b6, 0, none⟩) (.inl rfl) _, (HBW.out.trans hb11).setCell (p := ⟨b6, 0, none⟩) HB.out.1 _⟩)
  clear hx7 hr11 hb11 hat hg hx6 hx2 hxg hHeld hHeld3
  go_wp2
  go_ret
  exact HFIN.out
set_option maxHeartbeats 2000000 in
set_option maxRecDepth 100000 in
theorem now_ended {W : World} {B b6 b2 g : Nat} {ov hv : Value} {r : RS} {pcs : List Pc} (hB : B ≤ b6 ∧ b6 < W.heap.size ∧ B ≤ W.heap.size) (h6 : W.heap[b6]? = some (.cells #[ov] 28 (0, 0))) (h2 : W.heap[b2]? = some (.cells #[.pointer (some ⟨g, 0, none⟩)] 24 (0, 0))) (hg : W.heap[g]? = some (.cells #[.int .i64 r.st, hv, .string r.kind, .int .i64 r.size, .int .i64 r.left, .int .u32 r.sum, .int .i64 r.e] 59 (0, 0))) (hr : Kd.R kp 53 W B (fun _ => True) ov pcs) (hs : pcs.length ≤ 1000000) {p : Nat} (hn : pcs.length = p + 1) (hen : (pcs.getD p zp).en = true) :
    Calls Try.prog 20 #[.pointer (some ⟨b6, 0, none⟩), .pointer (some ⟨b2, 0, none⟩)] W fun e w' => NowP W B b6 ov (pcs ++ [⟨r.kind, r.size, none, 0, 0, false, false⟩]) e w' := by
  have HB := Aside0.mk hB
  have hc6 := blk_cell h6 0
  have hf6 := blk_frozen h6 0
  have hc2 := blk_cell h2 0
  have hg2 := blk_cell hg 2
  have hg3 := blk_cell hg 3
  have H6 := Aside0.mk h6
  have H2 := Aside0.mk h2
  have HG := Aside0.mk hg
  have HR := Aside0.mk hr
  have HZ := Aside0.mk (show (pcs.length + 1) * 56 ≤ 140737488355328 from by omega)
  have HLS := Aside0.mk (show (pcs ++ [(⟨r.kind, r.size, none, 0, 0, false, false⟩ : Pc)]).length = (p + 1) + 1 from by simp [hn])
  obtain ⟨g0, co, rfl, hr⟩ := rowA_form hn (by omega) hr
  have HR := Aside0.mk hr
  have he4 := (pc_at hr p (by omega)).1.2.2.2.2
  rw [hen] at he4
  have hpi : ((p + 1 : Nat) : Int) - 1 = (p : Int) := by omega
  have hp0 : (0 : Int) ≤ (p : Int) := by omega
  have hpl : p ≤ 1000000 := by omega
  have hpn : ((p + 1 : Nat) : Int) ≠ 0 := by omega
  have hpb : (((p + 1 : Nat) : Int) == 0) = false := by simp; omega
  clear hB h6 h2 hg hr hn hs hen
  go_enter Try.func20, Try.ntmps20
  go_wp2
  refine start_ (n := 13) (S := fun w' => w'.cell? ⟨b6, 0, none⟩ = some (Value.slice (some ⟨g0, 0, none⟩) (p + 1) co) ∧ w'.cell? ⟨b2, 0, none⟩ = some (.pointer (some ⟨g, 0, none⟩)) ∧ w'.cell? ⟨g, 2, none⟩ = some (.string r.kind) ∧ w'.cell? ⟨g, 3, none⟩ = some (.int .i64 r.size)) (ds := [12]) #[false, false, false, false, false, false, false, false, false, false, false, false, false] (by kernel_rfl) rfl rfl ⟨hc6, hc2, hg2, hg3⟩ (fun hHeld => ?_)
  have HR4 := Aside0.mk (Kd.R_drew HR.out)
  have HX6 := Aside0.mk (blk_drew H6.out)
  have HX2 := Aside0.mk (blk_drew H2.out)
  have HXG := Aside0.mk (blk_drew HG.out)
  have HN4 := Aside0.mk (show B ≤ W.drew.heap.size from HB.out.2.2)
  have HKW := Aside0.mk (show Kept W W.drew (fun k => k = b6 ∨ (Value.slice (some ⟨g0, 0, none⟩) (p + 1) co).ownBlock = some k) from Kept.of_below (below_drew (Below.refl _ _)) _)
  have HBW := Aside0.mk (show Below B W W.drew from below_drew (Below.refl _ _))
  generalize W.drew = W4 at hHeld HR4 HX6 HX2 HXG HN4 HKW HBW ⊢
  refine take_ (i := 0) (N := some 15) (v := ?_) (a' := ?_) #[true, false, false, false, false, false, false, false, false, false, false, false, false] rfl rfl (by kernel_rfl) (fun _ _ _ h => h) (Or.inl ⟨by rfl, ?_⟩) hHeld ?_ ?_
  rotate_left
  · rintro w' ⟨s0, s1, s2, s3⟩
    go_simp
    with_reducible rfl
  rotate_left
  · simp only [Act.put, List.setIfInBounds_toArray, List.set_cons_zero, List.set_cons_succ, i64_w, i32_w]
    rfl
  refine take_ (i := 1) (N := some 16) (v := ?_) (a' := ?_) #[true, true, false, false, false, false, false, false, false, false, false, false, false] rfl rfl (by kernel_rfl) (fun _ _ _ h => h) (Or.inl ⟨by rfl, ?_⟩) hHeld ?_ ?_
  rotate_left
  · rintro w' ⟨s0, s1, s2, s3⟩
    go_simp
    with_reducible rfl
  rotate_left
  · simp only [Act.put, List.setIfInBounds_toArray, List.set_cons_zero, List.set_cons_succ, i64_w, i32_w]
    rfl
  refine take_ (i := 5) (N := some 20) (v := ?_) (a' := ?_) #[true, true, false, false, false, true, false, false, false, false, false, false, false] rfl rfl (by kernel_rfl) (fun _ _ _ h => h) (Or.inl ⟨by rfl, ?_⟩) hHeld ?_ ?_
  rotate_left
  · rintro w' ⟨s0, s1, s2, s3⟩
    go_simp
    with_reducible rfl
  rotate_left
  · simp only [Act.put, List.setIfInBounds_toArray, List.set_cons_zero, List.set_cons_succ, i64_w, i32_w]
    rfl
  refine pure_ (i := 2) (N := some 17) (v := ?_) (a' := ?_) #[true, true, true, false, false, true, false, false, false, false, false, false, false] rfl rfl (by kernel_rfl) (fun _ _ _ h => h) (Or.inl ⟨by rfl, ?_⟩) ?_ ?_
  rotate_left
  · intro w'
    go_simp
    with_reducible rfl
  rotate_left
  · simp only [Act.put, List.setIfInBounds_toArray, List.set_cons_zero, List.set_cons_succ, i64_w, i32_w]
    rfl
  refine pure_ (i := 3) (N := some 18) (v := ?_) (a' := ?_) #[true, true, true, true, false, true, false, false, false, false, false, false, false] rfl rfl (by kernel_rfl) (fun _ _ _ h => h) (Or.inl ⟨by rfl, ?_⟩) ?_ ?_
  rotate_left
  · intro w'
    go_simp
    with_reducible rfl
  rotate_left
  · simp only [Act.put, List.setIfInBounds_toArray, List.set_cons_zero, List.set_cons_succ, i64_w, i32_w]
    rfl
  refine pure_ (i := 6) (N := some 21) (v := ?_) (a' := ?_) #[true, true, true, true, false, true, true, false, false, false, false, false, false] rfl rfl (by kernel_rfl) (fun _ _ _ h => h) (Or.inl ⟨by rfl, ?_⟩) ?_ ?_
  rotate_left
  · intro w'
    go_simp
    with_reducible rfl
  rotate_left
  · simp only [Act.put, List.setIfInBounds_toArray, List.set_cons_zero, List.set_cons_succ, i64_w, i32_w]
    rfl
  refine pure_ (i := 7) (N := some 22) (v := ?_) (a' := ?_) #[true, true, true, true, false, true, true, true, false, false, false, false, false] rfl rfl (by kernel_rfl) (fun _ _ _ h => h) (Or.inl ⟨by rfl, ?_⟩) ?_ ?_
  rotate_left
  · intro w'
    go_simp
    with_reducible rfl
  rotate_left
  · simp only [Act.put, List.setIfInBounds_toArray, List.set_cons_zero, List.set_cons_succ, i64_w, i32_w]
    rfl
  refine take_ (i := 4) (N := some 19) (v := ?_) (a' := ?_) #[true, true, true, true, true, true, true, true, false, false, false, false, false] rfl rfl (by kernel_rfl) (fun _ _ _ h => h) (Or.inl ⟨by rfl, ?_⟩) hHeld ?_ ?_
  rotate_left
  · rintro w' ⟨s0, s1, s2, s3⟩
    go_simp
    with_reducible rfl
  rotate_left
  · simp only [Act.put, List.setIfInBounds_toArray, List.set_cons_zero, List.set_cons_succ, i64_w, i32_w]
    rfl
  refine take_ (i := 8) (N := some 23) (v := ?_) (a' := ?_) #[true, true, true, true, true, true, true, true, true, false, false, false, false] rfl rfl (by kernel_rfl) (fun _ _ _ h => h) (Or.inl ⟨by rfl, ?_⟩) hHeld ?_ ?_
  rotate_left
  · rintro w' ⟨s0, s1, s2, s3⟩
    go_simp
    with_reducible rfl
  rotate_left
  · simp only [Act.put, List.setIfInBounds_toArray, List.set_cons_zero, List.set_cons_succ, i64_w, i32_w]
    rfl
  refine pure_ (i := 9) (N := some 24) (v := ?_) (a' := ?_) #[true, true, true, true, true, true, true, true, true, true, false, false, false] rfl rfl (by kernel_rfl) (fun _ _ _ h => h) (Or.inl ⟨by rfl, ?_⟩) ?_ ?_
  rotate_left
  · intro w'
    go_simp
    with_reducible rfl
  rotate_left
  · simp only [Act.put, List.setIfInBounds_toArray, List.set_cons_zero, List.set_cons_succ, i64_w, i32_w]
    rfl
  have hAl : Below W4.heap.size W4 (W4.alloc (.cells #[.string r.kind, .int .i64 r.size, .slice none 0 0, .bool false, .bool false] 53)) := (Below.refl _ _).alloc (Nat.le_refl _) _
  refine one_ (i := 10) (N := some 25) #[true, true, true, true, true, true, true, true, true, true, true, false, false] rfl rfl (by kernel_rfl) (by decide) (fun K hK => ?_)
  refine value_ (w1 := ?_) (v := ?_) (by rfl) rfl ?_ ?_
  rotate_left 2
  · go_simp
    constructor
    · rfl
    · rfl
  refine hK.out _ _ ⟨pw_cell_below hAl hHeld.1, pw_cell_below hAl hHeld.2.1, pw_cell_below hAl hHeld.2.2.1, pw_cell_below hAl hHeld.2.2.2⟩ (fun hHeld2 => ?_)
  clear hK K
  refine norm_ (a' := ?_) ?_ ?_
  rotate_left
  · show Act.put _ (some 25) _ = _
    simp only [Act.put, List.setIfInBounds_toArray, List.set_cons_zero, List.set_cons_succ, i64_w, i32_w]
    rfl
  refine one_ (i := 11) (N := some 26) #[true, true, true, true, true, true, true, true, true, true, true, true, false] rfl rfl (by kernel_rfl) (by decide) (fun K hK => ?_)
  refine Kd.R_append_step kp (w0 := W4) (W := W4) B (by rfl) (.tmp 15) (.tmp 25) 28 53 (.agg #[.string ⟨#[]⟩, .int .i64 0, .slice none 0 0, .bool false, .bool false]) 56 rfl Try.underlying28 info53_ rfl (by decide) (by omega) (Value.slice (some ⟨g0, 0, none⟩) (p + 1) co) pcs ⟨r.kind, r.size, none, 0, 0, false, false⟩ [.string r.kind, .int .i64 r.size, .slice none 0 0, .bool false, .bool false] (fun _ => True) (fun _ => False) (by rfl) (by rfl) (kp_mkM _ _ _ _) (fun _ hk => hk.elim) (fun _ _ => trivial) HR4.out (Below.refl _ _) HN4.out HZ.out ?_
  intro v11 w11 ho hb11 hg hat
  obtain ⟨go, c11, rfl, hr11⟩ := rowA_form HLS.out (by omega) ho
  have hx6 := blk_grown HX6.out hg (Kd.R_ne HR4.out HX6.out (by decide))
  have hx2 := blk_grown HX2.out hg (Kd.R_ne HR4.out HX2.out (by decide))
  have hxg := blk_grown HXG.out hg (Kd.R_ne HR4.out HXG.out (by decide))
  have hm0 := blk_cell hx6 0
  have hm0f := blk_frozen hx6 0
  refine hK.out _ _ ⟨blk_cell hx6 0, blk_cell hx2 0, blk_cell hxg 2, blk_cell hxg 3⟩ (fun hHeld3 => ?_)
  clear hK K
  refine norm_ (a' := ?_) ?_ ?_
  rotate_left
  · show Act.put _ (some 26) _ = _
    simp only [Act.put, List.setIfInBounds_toArray, List.set_cons_zero, List.set_cons_succ, i64_w, i32_w]
    rfl
  refine last_ (i := 12) (N := none) #[true, true, true, true, true, true, true, true, true, true, true, true, true] rfl rfl (by kernel_rfl) (by decide) (fun K hK => ?_)
  refine skip_ (w1 := ?_) (by rfl) rfl ?_ ?_
  rotate_left
  · go_simp
    rfl
  refine hK.out _ _ ?_
  clear hK K
  refine done_ (by kernel_rfl) ?_
  have hx7 := blk_set hx6 0 (.slice (some ⟨go, 0, none⟩) ((p + 1) + 1) c11)
  have HX7 := Aside0.mk hx7
  have hq7 := blk_cell hx7 0
  have hcast : (((p + 1) + 1 : Nat) : Int) - 1 = (((p + 1) : Nat) : Int) := by omega
  have HFIN := Aside0.mk (show NowP W B b6 (Value.slice (some ⟨g0, 0, none⟩) (p + 1) co) (pcs ++ [⟨r.kind, r.size, none, 0, 0, false, false⟩]) (.returned (.pointer (some ⟨go, (p + 1) * 5, none⟩))) (w11.setCell ⟨b6, 0, none⟩ (.slice (some ⟨go, 0, none⟩) ((p + 1) + 1) c11)) from
    ⟨go, c11, (p + 1), rfl, HLS.out, by simpa using hx7, Kd.R_set hr11 hx6 (by decide) 0 _, kept_set (HKW.out.then_ (kept_grown hg (S := fun k => k = b6 ∨ (Value.slice (some ⟨g0, 0, none⟩) (p + 1) co).ownBlock = some k) (fun k hk => .inr hk)) (fun k hk => .inl hk)) (p := ⟨b6, 0, none⟩) (.inl rfl) _, (HBW.out.trans hb11).setCell (p := ⟨b6, 0, none⟩) HB.out.1 _⟩)
  clear hx7 hr11 hb11 hat hg hx6 hx2 hxg hHeld hHeld3
  go_wp2
  go_ret
  exact HFIN.out
set_option maxHeartbeats 2000000 in
set_option maxRecDepth 100000 in
theorem now_open {W : World} {B b6 b2 g : Nat} {ov hv : Value} {r : RS} {pcs : List Pc} (hB : B ≤ b6 ∧ b6 < W.heap.size ∧ B ≤ W.heap.size) (h6 : W.heap[b6]? = some (.cells #[ov] 28 (0, 0))) (h2 : W.heap[b2]? = some (.cells #[.pointer (some ⟨g, 0, none⟩)] 24 (0, 0))) (hg : W.heap[g]? = some (.cells #[.int .i64 r.st, hv, .string r.kind, .int .i64 r.size, .int .i64 r.left, .int .u32 r.sum, .int .i64 r.e] 59 (0, 0))) (hr : Kd.R kp 53 W B (fun _ => True) ov pcs) (hs : pcs.length ≤ 1000000) {p : Nat} (hn : pcs.length = p + 1) (hen : (pcs.getD p zp).en = false) :
    Calls Try.prog 20 #[.pointer (some ⟨b6, 0, none⟩), .pointer (some ⟨b2, 0, none⟩)] W fun e w' => NowP W B b6 ov pcs e w' := by
  have HB := Aside0.mk hB
  have hc6 := blk_cell h6 0
  have hf6 := blk_frozen h6 0
  have hc2 := blk_cell h2 0
  have hg2 := blk_cell hg 2
  have hg3 := blk_cell hg 3
  have H6 := Aside0.mk h6
  have H2 := Aside0.mk h2
  have HG := Aside0.mk hg
  have HR := Aside0.mk hr
  obtain ⟨g0, co, rfl, hr⟩ := rowA_form hn (by omega) hr
  have HR := Aside0.mk hr
  have HN := Aside0.mk hn
  have he4 := (pc_at hr p (by omega)).1.2.2.2.2
  rw [hen] at he4
  have hpi : ((p + 1 : Nat) : Int) - 1 = (p : Int) := by omega
  have hp0 : (0 : Int) ≤ (p : Int) := by omega
  have hpl : p ≤ 1000000 := by omega
  have hpb : (((p + 1 : Nat) : Int) == 0) = false := by simp; omega
  clear hB h6 h2 hg hr hn hs hen
  go_enter Try.func20, Try.ntmps20
  go_wp2
  go_ret
  exact ⟨g0, co, p, rfl, HN.out, H6.out, HR.out, Kept.refl _ _, Below.refl _ _⟩
end Go.Proofs.Ytapaodagnpaekaa.Lib
