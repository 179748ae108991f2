/- canvas: View: walked by hand. -/
import Derived.Test.YtmeafgoifekffaaV8
import Derived.Outline
import Derived.WalkMore
namespace Go.Proofs.Ytmeafgoifekffaa.Lib
open Go.RowKit Go.Shelf Go.Proofs.YtmeafgoifekffaaW.PrintWords Go.Proofs.YtmeafgoifekffaaW.PrintLast Go.Proofs.YtmeafgoifekffaaW.PrintMore
attribute [local go_sem] Oper.semAt_some
set_option linter.unusedVariables false
set_option linter.unusedSimpArgs false
theorem near_boxes (w : World) (a b : Nat) (wv : Bool) : NeBx w.heap.size a b wv (((w.alloc (.cells #[.int .i64 a] 3)).alloc (.cells #[.int .i64 b] 3)).alloc (.cells #[.bool wv] 4)).drew := by
  have h1 := blk_cell (heap_alloc_new w (.cells #[.int .i64 a] 3)) 0
  have h2 := blk_cell (heap_alloc_new (w.alloc (.cells #[.int .i64 a] 3)) (.cells #[.int .i64 b] 3)) 0
  have h3 := blk_cell (heap_alloc_new ((w.alloc (.cells #[.int .i64 a] 3)).alloc (.cells #[.int .i64 b] 3)) (.cells #[.bool wv] 4)) 0
  simp only [World.size_alloc] at h2 h3
  exact ⟨pw_cell_below (below_drew ((Below.refl _ _).alloc (Nat.le_refl _) _)) (pw_cell_below ((Below.refl _ _).alloc (Nat.le_refl _) _) h1), pw_cell_below (below_drew ((Below.refl _ _).alloc (Nat.le_refl _) _)) h2, h3⟩
/-- while a place is looked for -/
def VwI (w0 wr : World) (n₀ : Nat) (c : Cv) (cnt : Nat) (ps : List S45) (ks : List Bool) (b5 gp2 cp2 : Nat) (out : List S45) (bi k s0 : Nat) (Ds : List Nat) (pre : List (Nat × Nat)) : Prop :=
  s0 ≤ wr.heap.size ∧ VS w0 wr n₀ c cnt ps ks b5 gp2 cp2 out ∧ wr.heap[bi]? = some (.cells #[.int .i64 k] 3 (0, 0)) ∧ (∀ q ∈ pre, seeL c.x c.y ps ks q = none) ∧ MkAt Ds wr
/-- when it was found -/
def VwX (w0 wr : World) (n₀ : Nat) (c : Cv) (cnt : Nat) (ps : List S45) (ks : List Bool) (b5 gp2 cp2 : Nat) (out : List S45) (k : Nat) (Ds : List Nat) (pre : List (Nat × Nat)) : Prop :=
  ∃ init q p, pre = init ++ [q] ∧ (∀ r ∈ init, seeL c.x c.y ps ks r = none) ∧ seeL c.x c.y ps ks q = some p ∧ VS w0 wr n₀ c cnt ps ks b5 gp2 cp2 (out.set k p) ∧ MkAt Ds wr
theorem MkAt.own {A B : World} {Ds : List Nat} {L : Nat} {row : Option Nat} (h : MkAt Ds A) (hg : A.grownBy B row) (hr : ∀ r, row = some r → L ≤ r) (hD : ∀ D ∈ Ds, D < L) : MkAt Ds B := fun D hm =>
  (hg.block D (blk_lt (h D hm)) (fun e => by have := hr D e.symm; have := hD D hm; omega)).trans (h D hm)
section
variable {w0 wr w1 : World} {n₀ : Nat} {c : Cv} {cnt : Nat} {ps : List S45} {ks : List Bool} {b5 gp2 cp2 : Nat} {out : List S45} {bi k : Nat} {Ds : List Nat}
theorem VwI.own (L s0 : Nat) (hL : w0.heap.size ≤ L) (hb : bi < L) (hD : ∀ D ∈ Ds, D < L) : OwnFrom L (fun (pre : List (Nat × Nat)) W => VwI w0 W n₀ c cnt ps ks b5 gp2 cp2 out bi k s0 Ds pre) := by
  intro s A B row hs hg hr
  obtain ⟨h0, h1, h2, h3, h4⟩ := hs
  exact ⟨Nat.le_trans h0 hg.size, VS.own L hL (fun _ : Unit => out) () A B row h1 hg hr, blk_own h2 hg (fun r e => (hr r e).2), h3, h4.own hg (fun r e => (hr r e).1) hD⟩
theorem VwX.own (L : Nat) (hL : w0.heap.size ≤ L) (hD : ∀ D ∈ Ds, D < L) (cd : Code) : OwnFrom L (fun (pre : List (Nat × Nat)) W => cd = .exit 2 ∧ VwX w0 W n₀ c cnt ps ks b5 gp2 cp2 out k Ds pre) := by
  intro s A B row hs hg hr
  obtain ⟨h0, init, q, p, h1, h2, h3, h4, h5⟩ := hs
  exact ⟨h0, init, q, p, h1, h2, h3, VS.own L hL (fun _ : Unit => out.set k p) () A B row h4 hg hr, h5.own hg (fun r e => (hr r e).1) hD⟩
end
set_option maxRecDepth 100000 in
set_option maxHeartbeats 4000000 in
theorem view_in {W : World} {n₀ : Nat} {c : Cv} {cnt : Nat} {ps : List S45} {ks : List Bool} (h : IsCv W n₀ c cnt ps ks) (hn : 0 < c.n) (wv : Bool) :
    CallsIn Fence.wide 5 Try.prog 15 #[.pointer (some ⟨c.g, 0, none⟩), .bool wv] W fun e W' => ImgP c.x c.y W (viewTo c.x c.y ps ks wv c.n) e W' := by
  have H := Aside0.mk h
  clear h
  refine callsIn_of_wp_marks Try.func15 rfl trivial ?_ rfl
  simp only [Try.ntmps15, List.size_toArray, List.length_cons, List.length_nil, Nat.reduceAdd, Nat.reduceSub, Array.replicate_succ, Array.replicate_zero, List.push_toArray, List.append_toArray, List.nil_append, List.cons_append]
  refine wpIn_wide.2 ?_
  go_wp2_with (go_at_call 20; refine (image_walk ((H.out.alloc _).alloc _) hn).mono ?_; rintro e w1 ⟨gp2, cp2, rfl, hg, ho, hb⟩)
  have hg2 : W.heap.size + 1 + 1 ≤ gp2 := by simpa using hg
  have hVS : VS W (w1.alloc (.cells #[.int .i64 c.x, .int .i64 c.y, .slice (some ⟨gp2, 0, none⟩) ps.length cp2] 39)) n₀ c cnt ps ks w1.heap.size gp2 cp2 ps := by
    have e1 : Below W.heap.size W ((W.alloc (.cells #[.pointer (some ⟨c.g, 0, none⟩)] 24)).alloc (.cells #[.int .i64 0, .int .i64 0, .slice none 0 0] 39)) := ((Below.refl _ _).alloc (Nat.le_refl _) _).alloc (by simp) _
    have e2 : Below w1.heap.size w1 (w1.alloc (.cells #[.int .i64 c.x, .int .i64 c.y, .slice (some ⟨gp2, 0, none⟩) ps.length cp2] 39)) := (Below.refl _ _).alloc (Nat.le_refl _) _
    have b1 := blk_below (heap_alloc_new W (.cells #[.pointer (some ⟨c.g, 0, none⟩)] 24)) ((Below.refl _ _).alloc (Nat.le_refl _) (.cells #[.int .i64 0, .int .i64 0, .slice none 0 0] 39))
    have b2 := heap_alloc_new (W.alloc (.cells #[.pointer (some ⟨c.g, 0, none⟩)] 24)) (.cells #[.int .i64 0, .int .i64 0, .slice none 0 0] 39)
    rw [World.size_alloc] at b2
    have hl := H.out.lp
    refine ⟨((H.out.ext e1).ext hb).ext e2, below_then (below_then e1 e1.size hb) (Nat.le_trans e1.size hb.size) e2, blk_below (blk_below b1 hb) e2, blk_below (blk_below b2 hb) e2, ?_, ?_, H.out.lt, ?_⟩
    · have h1 := heap_alloc_new w1 (.cells #[.int .i64 c.x, .int .i64 c.y, .slice (some ⟨gp2, 0, none⟩) ps.length cp2] 39)
      rw [← hl] at h1 ⊢
      exact h1
    · have h1 := Kd.R_below (Kd.R_lower ho (show W.heap.size ≤ _ by simp; omega)) e2
      rw [← hl] at h1
      rw [← hl]
      exact h1
    · have h1 := hb.size
      simp at h1
      omega
  obtain ⟨b5, hb5⟩ : ∃ b5, w1.heap.size = b5 := ⟨_, rfl⟩
  obtain ⟨w2, hw2⟩ : ∃ w2, w1.alloc (.cells #[.int .i64 c.x, .int .i64 c.y, .slice (some ⟨gp2, 0, none⟩) ps.length cp2] 39) = w2 := ⟨_, rfl⟩
  obtain ⟨N, hN⟩ : ∃ N, c.n = N := ⟨_, rfl⟩
  have hpl : ps.length = N := by rw [← hN]; exact H.out.lp.symm
  have hsz := H.out.sz
  rw [hw2, hb5] at hVS
  rw [hb5, hw2, hpl]
  rw [hN] at hn hsz
  have HVS := Aside0.mk hVS
  have HNN := Aside0.mk hN
  clear hVS hw2 hb5 hg ho hb hg2 hN hpl
  refine wp_loop_ghost_k (fun m a wr => ∃ (k : Nat) (Ds : List Nat) (u6 u7 u8 u9 u10 u17 u18 u19 u20 u21 u22 u23 u24 u25 u26 u27 u28 u29 u30 u31 u32 u33 u34 u35 u36 u37 u38 u39 u40 u41 u42 u43 u44 u45 u46 u47 u48 : Value), a = { tmps := #[.pointer (some ⟨c.g, 0, none⟩), .bool wv, .pointer (some ⟨W.heap.size, 0, none⟩), undef, .pointer (some ⟨W.heap.size + 1, 0, none⟩), .pointer (some ⟨b5, 0, none⟩), u6, u7, u8, u9, u10, .pointer (some ⟨c.g, 0, none⟩), .agg #[.int .i64 c.x, .int .i64 c.y, .slice (some ⟨gp2, 0, none⟩) N cp2], .pointer (some ⟨b5, 2, none⟩), .slice (some ⟨gp2, 0, none⟩) N cp2, .int .i64 N, .int .i64 k, u17, u18, u19, u20, u21, u22, u23, u24, u25, u26, u27, u28, u29, u30, u31, u32, u33, u34, u35, u36, u37, u38, u39, u40, u41, u42, u43, u44, u45, u46, u47, u48, undef], defers := mks Ds } ∧ m = N - k ∧ k ≤ N ∧ Aside0 (VS W wr n₀ c cnt ps ks b5 gp2 cp2 (viewTo c.x c.y ps ks wv k)) ∧ Aside0 (Ds.Nodup ∧ MkAt Ds wr ∧ ∀ D ∈ Ds, W.heap.size ≤ D)) N ?atStart ?round
  case atStart => exact ⟨0, [], undef, undef, undef, undef, undef, undef, undef, undef, undef, undef, undef, undef, undef, undef, undef, undef, undef, undef, undef, undef, undef, undef, undef, undef, undef, undef, undef, undef, undef, undef, undef, undef, undef, undef, undef, undef, undef, rfl, rfl, Nat.zero_le _, ⟨by rw [viewTo_zero]; exact HVS.out⟩, ⟨List.nodup_nil, fun D hD => absurd hD List.not_mem_nil, fun D hD => absurd hD List.not_mem_nil⟩⟩
  case round =>
    clear HVS
    rintro m a wr ⟨k, Ds, u6, u7, u8, u9, u10, u17, u18, u19, u20, u21, u22, u23, u24, u25, u26, u27, u28, u29, u30, u31, u32, u33, u34, u35, u36, u37, u38, u39, u40, u41, u42, u43, u44, u45, u46, u47, u48, rfl, rfl, hk, HVS, HMK⟩ J K hJ hK
    by_cases hlt : k < N
    · have hc2 := blk_cell HVS.out.box 0
      have hgx := blk_cell HVS.out.cv.blk 0
      have hBi : Below wr.heap.size wr (wr.alloc (.cells #[.int .i64 k] 3)) := (Below.refl _ _).alloc (Nat.le_refl _) _
      have hi0 : (wr.alloc (.cells #[.int .i64 k] 3)).cell? ⟨wr.heap.size, 0, none⟩ = some (.int .i64 k) := blk_cell (heap_alloc_new wr _) 0
      have HS := Aside0.mk (show ∀ w' : World, Below (wr.alloc (.cells #[.int .i64 k] 3)).heap.size (wr.alloc (.cells #[.int .i64 k] 3)) w' → w'.cell? ⟨wr.heap.size, 0, none⟩ = some (.int .i64 k) ∧ w'.cell? ⟨W.heap.size, 0, none⟩ = some (.pointer (some ⟨c.g, 0, none⟩)) ∧ w'.cell? ⟨c.g, 0, none⟩ = some (.int .i64 c.x) from
        fun w' hb => ⟨pw_cell_below hb hi0, pw_cell_below hb (pw_cell_below hBi hc2), pw_cell_below hb (pw_cell_below hBi hgx)⟩)
      have HVI := Aside0.mk (HVS.out.ext hBi)
      have HMI := Aside0.mk (HMK.out.2.1.ext hBi)
      have HII := Aside0.mk (heap_alloc_new wr (.cells #[.int .i64 k] 3))
      clear hi0 hBi
      obtain ⟨qa, hqa⟩ : ∃ qa, k % c.x = qa := ⟨_, rfl⟩
      obtain ⟨qb, hqb⟩ : ∃ qb, k / c.x = qb := ⟨_, rfl⟩
      have hqa2 : qa ≤ 2048 := by have := Nat.mod_lt k (show 0 < c.x by omega); omega
      have hqb2 : qb ≤ 65536 := by have := Nat.div_le_self k c.x; omega
      have hr1 : (k : Int) % c.x = (qa : Int) := by rw [← hqa]; rfl
      have hr1' : (k : Int).tmod c.x = (qa : Int) := by rw [← hqa]; rfl
      have hr2' : (k : Int).tdiv c.x = (qb : Int) := by rw [← hqb]; rfl
      have hr2 : (k : Int) / c.x = (qb : Int) := by rw [← hqb]; rfl
      have hr3 : IntKind.i64.wrap (qb : Int) = qb := wrapI (by omega) (by omega)
      have HQA := Aside0.mk hqa
      have HQB := Aside0.mk hqb
      clear hqa hqb
      have hxn : ((c.x : Int) == 0) = false := by simp; omega
      have hxn2 : ¬ ((c.x : Int) = 0) := by omega
      have hxn3 : ¬ (c.x = 0) := by omega
      go_wp2
      go_step3
      go_wp2
      go_step3
      go_wp2
      go_region_held3 (fun w' => w'.cell? ⟨wr.heap.size, 0, none⟩ = some (.int .i64 k) ∧ w'.cell? ⟨W.heap.size, 0, none⟩ = some (.pointer (some ⟨c.g, 0, none⟩)) ∧ w'.cell? ⟨c.g, 0, none⟩ = some (.int .i64 c.x)) (exact HS.out _ (by repeat (first | exact Below.refl _ _ | exact below_drew (Below.refl _ _) | exact HB3.out))) (first
        | (go_at_call 28; refine ((callsIn_wide (n := 2)).1 (near_in Fence.wide 2 trivial rfl qa qb wv _)).mono ?_; rintro e w3 ⟨rfl, rfl⟩; have HB3 := Aside0.mk (below_then (below_drew (Below.refl _ _)) (Nat.le_refl _) (below_alloc3 (wr.alloc (.cells #[.int .i64 k] 3)).drew (.cells #[.int .i64 qa] 3) (.cells #[.int .i64 qb] 3) (.cells #[.bool wv] 4)))))
      clear hr1 hr1' hr2 hr2' hr3 hxn hxn2 hxn3 hc2 hgx HS HB3
      go_wp2
      have hqb3 : qb ≤ 2048 := by
        have h1 : k < c.x * c.y := by have h2 : c.x * c.y = N := HNN.out; omega
        have := Nat.div_lt_of_lt_mul h1
        have := HQB.out
        omega
      have hB4 := below_drew (below_alloc3 (wr.alloc (.cells #[.int .i64 k] 3)) (.cells #[.int .i64 qa] 3) (.cells #[.int .i64 qb] 3) (.cells #[.bool wv] 4))
      have hV3 := HVI.out.ext hB4
      have hM3 := HMI.out.ext hB4
      have hI3 := blk_below HII.out hB4
      have hX := near_boxes (wr.alloc (.cells #[.int .i64 k] 3)) qa qb wv
      have hz : ((((wr.alloc (.cells #[.int .i64 k] 3)).alloc (.cells #[.int .i64 qa] 3)).alloc (.cells #[.int .i64 qb] 3)).alloc (.cells #[.bool wv] 4)).drew.heap.size = wr.heap.size + 1 + 1 + 1 + 1 := by simp
      rw [World.size_alloc] at hX
      obtain ⟨w3, hw3⟩ : ∃ w3, ((((wr.alloc (.cells #[.int .i64 k] 3)).alloc (.cells #[.int .i64 qa] 3)).alloc (.cells #[.int .i64 qb] 3)).alloc (.cells #[.bool wv] 4)).drew = w3 := ⟨_, rfl⟩
      rw [hw3] at hV3 hM3 hI3 hX hz ⊢
      clear hB4 hw3
      have hWz := HVS.out.bl.size
      have hkc : k < c.n := by have : c.n = N := HNN.out; omega
      refine (wpIn_wide (n := 5)).1 ?_
      refine wpIn_rangeFunc_ownG rfl (by omega) (gf := 35) (lb := #[.pointer (some ⟨wr.heap.size + 1, 0, none⟩), .pointer (some ⟨wr.heap.size + 1 + 1, 0, none⟩), .pointer (some ⟨wr.heap.size + 1 + 1 + 1, 0, none⟩)]) rfl trivial (enters_of Try.func35 (by kernel_rfl) rfl)
        (near_stops Fence.wide 4 trivial rfl (by omega) qa qb wv (wr.heap.size + 1) hqa2 hqb3 _ hX) (fun h k => NeKp.trans h k) (NeKp.put (by omega)) (Below.refl _ _) (fun _ => rfl)
        (fun pre W' => VwI W W' n₀ c cnt ps ks b5 gp2 cp2 (viewTo c.x c.y ps ks wv k) wr.heap.size k w3.heap.size Ds pre)
        (fun cd pre W' => cd = .exit 2 ∧ VwX W W' n₀ c cnt ps ks b5 gp2 cp2 (viewTo c.x c.y ps ks wv k) k Ds pre)
        ?own ?ownx
        ⟨Nat.le_refl _, hV3, hI3, fun q hq => absurd hq List.not_mem_nil, hM3⟩
        (fun x => { tmps := #[.pointer (some ⟨c.g, 0, none⟩), .bool wv, .pointer (some ⟨W.heap.size, 0, none⟩), undef, .pointer (some ⟨W.heap.size + 1, 0, none⟩), .pointer (some ⟨b5, 0, none⟩), .pointer (some ⟨wr.heap.size, 0, none⟩), .int .i64 x.1, .int .i64 x.2, u9, u10, .pointer (some ⟨c.g, 0, none⟩), .agg #[.int .i64 c.x, .int .i64 c.y, .slice (some ⟨gp2, 0, none⟩) N cp2], .pointer (some ⟨b5, 2, none⟩), .slice (some ⟨gp2, 0, none⟩) N cp2, .int .i64 N, .int .i64 k, .bool true, .int .i64 k, .int .i64 k, .pointer (some ⟨c.g, 0, none⟩), .pointer (some ⟨c.g, 0, none⟩), .pointer (some ⟨c.g, 0, none⟩), .int .i64 c.x, .int .i64 qa, .int .i64 k, .pointer (some ⟨c.g, 0, none⟩), .pointer (some ⟨c.g, 0, none⟩), .pointer (some ⟨c.g, 0, none⟩), .int .i64 c.x, .int .i64 qb, .bool wv, .func (.func 35) #[] #[.pointer (some ⟨wr.heap.size + 1, 0, none⟩), .pointer (some ⟨wr.heap.size + 1 + 1, 0, none⟩), .pointer (some ⟨wr.heap.size + 1 + 1 + 1, 0, none⟩)], .int .i64 x.1, .int .i64 x.2, u35, u36, u37, u38, u39, u40, u41, u42, u43, u44, u45, u46, u47, u48, undef], defers := [] }) ?assign ?body ?done ?stop
      case own => exact VwI.own _ _ (by omega) (by omega) (fun D hD => blk_lt (hM3 D hD))
      case ownx => exact VwX.own _ (by omega) (fun D hD => blk_lt (hM3 D hD))
      case assign =>
        intro l x W' K hK
        gi_wp2
        simpa [List.zip_toArray] using hK
      case body =>
        rintro l pre x W' ⟨hs0, hV, hI, hU, hM⟩ hlt7
        dsimp only
        have hfn : Fence.wide.fn 24 := trivial
        have hcb := blk_cell hV.box 0
        have hat := at_walk hV.cv x.1 x.2
        unfold S45.val at hat
        obtain ⟨r, hr⟩ : ∃ r, atL c.x c.y ps ks x.1 x.2 = r := ⟨_, rfl⟩
        have HAT := Aside0.mk hr
        rw [hr] at hat
        obtain ⟨px, ok⟩ := r
        dsimp only at hat
        have HV := Aside0.mk hV
        have HI := Aside0.mk hI
        have HCL := Aside0.mk hat
        clear hr hat
        cases ok with
        | false =>
          clear hV hI
          gi_wp2_with (gi_at_call 24; refine (CallsIn.inRound l ((callsIn_wide (n := 2)).2 HCL.out)).mono ?_; rintro e W4 ⟨rfl, hb4⟩)
          have hb5 := below_alloc hb4 (.cells #[.int .u16 px.f0, .int .u16 px.f1, .int .u16 px.f2, .int .u16 px.f3] 45)
          have hsee : seeL c.x c.y ps ks x = none := by unfold seeL; rw [HAT.out]; rfl
          dsimp only [ownPostG]
          refine ⟨(KeepsOthers.mk hb5.size (fun i o h _ => blk_below h hb5)).from _, ⟨hb5.cell (p := ⟨_, 0, none⟩) (by show wr.heap.size + 1 < _; omega), hb5.cell (p := ⟨_, 0, none⟩) (by show wr.heap.size + 1 + 1 < _; omega), hb5.cell (p := ⟨_, 0, none⟩) (by show wr.heap.size + 1 + 1 + 1 < _; omega)⟩, Nat.le_trans hs0 hb5.size, HV.out.ext hb5, blk_below HI.out hb5, ?_, hM.ext hb5⟩
          intro q hq
          rcases List.mem_append.1 hq with h1 | h1
          · exact hU q h1
          · rw [List.mem_singleton.1 h1]
            exact hsee
        | true =>
          clear hV hI
          gi_wp2_with (gi_at_call 24; refine (CallsIn.inRound l ((callsIn_wide (n := 2)).2 HCL.out)).mono ?_; rintro e W4 ⟨rfl, hb4⟩; have HV4 := Aside0.mk (HV.out.ext hb4); have hc5 : W4.cell? ⟨b5, 2, none⟩ = some (.slice (some ⟨gp2, 0, none⟩) c.n cp2) := blk_cell HV4.out.img 2; have hci : W4.cell? ⟨wr.heap.size, 0, none⟩ = some (.int .i64 k) := blk_cell (blk_below HI.out hb4) 0; obtain ⟨⟨p1, p2, p3, p4, q1, q2, q3, q4⟩, hpf⟩ := HV4.out.pixel k hkc; have hf0 : W4.frozen? ⟨gp2, k * 4, none⟩ = false := hpf 0; have hf1 := hpf 1; have hf2 := hpf 2; have hf3 := hpf 3; clear hpf; obtain ⟨z1, z2⟩ := HV4.out.lts; have z3 := blk_lt (blk_below HI.out hb4))
          have hsee : seeL c.x c.y ps ks x = some px := by unfold seeL; rw [HAT.out]; rfl
          have hKO : KeepsOthers W' ((((W4.setCell ⟨gp2, k * 4, none⟩ (.int .u16 px.f0)).setCell ⟨gp2, k * 4 + 1, none⟩ (.int .u16 px.f1)).setCell ⟨gp2, k * 4 + 2, none⟩ (.int .u16 px.f2)).setCell ⟨gp2, k * 4 + 3, none⟩ (.int .u16 px.f3)) :=
            ((((KeepsOthers.mk hb4.size (fun i o h _ => blk_below h hb4)).trans (KeepsOthers.setCell _ _ _)).trans (KeepsOthers.setCell _ _ _)).trans (KeepsOthers.setCell _ _ _)).trans (KeepsOthers.setCell _ _ _)
          have hV5 := HV4.out.setPix k hkc px
          have hM5 : MkAt Ds _ := fun D hD => hKO.same D _ (hM D hD) rfl
          obtain ⟨w5, hw5⟩ : ∃ w5, (((W4.setCell ⟨gp2, k * 4, none⟩ (.int .u16 px.f0)).setCell ⟨gp2, k * 4 + 1, none⟩ (.int .u16 px.f1)).setCell ⟨gp2, k * 4 + 2, none⟩ (.int .u16 px.f2)).setCell ⟨gp2, k * 4 + 3, none⟩ (.int .u16 px.f3) = w5 := ⟨_, rfl⟩
          rw [hw5] at hKO hV5 hM5 ⊢
          clear hw5
          have hb6 : Below w5.heap.size w5 (w5.alloc (.cells #[.int .u16 px.f0, .int .u16 px.f1, .int .u16 px.f2, .int .u16 px.f3] 45)) := (Below.refl _ _).alloc (Nat.le_refl _) _
          dsimp only [ownPostG]
          exact ⟨(hKO.trans (KeepsOthers.mk hb6.size (fun i o h _ => blk_below h hb6))).from _, rfl, pre, x, px, rfl, hU, hsee, hV5.ext hb6, hM5.ext hb6⟩
      case done =>
        rintro D ys W' hD rfl ⟨hs0, hV, hI, hU, hM⟩ hKD
        dsimp only
        go_wp2
        rw [Exit.noGoto_normal]
        go_wp2
        refine Handed.intro (N - (k + 1)) (by omega) (hJ _ _ _ ⟨k + 1, D :: Ds, _, _, _, _, _, _, _, _, _, _, _, _, _, _, _, _, _, _, _, _, _, _, _, _, _, _, _, _, _, _, _, _, _, _, _, _, _,  rfl, rfl, by omega, ⟨by rw [viewTo_none _ _ _ _ _ _ (fun q hq => hU q (by rw [HQA.out, HQB.out] at hq; exact hq))]; exact hV⟩, ⟨List.nodup_cons.2 ⟨fun hm => ?nd, HMK.out.1⟩, fun D' hD' => ?mk, fun D' hD' => ?ge⟩⟩)
        case nd => have := blk_lt (hM3 D hm); omega
        case ge =>
          rcases List.mem_cons.1 hD' with rfl | h1
          · omega
          · exact HMK.out.2.2 D' h1
        case mk =>
          rcases List.mem_cons.1 hD' with rfl | h1
          · exact hKD
          · exact hM D' h1
      case stop =>
        rintro D cd pre W' hD hpre ⟨rfl, init, q, p, rfl, hU, hq, hV, hM⟩ hKD
        refine wpIn_wide.2 ?_
        go_wp2
        rw [Exit.noGoto_normal]
        go_wp2
        refine Handed.intro (N - (k + 1)) (by omega) (hJ _ _ _ ⟨k + 1, D :: Ds, _, _, _, _, _, _, _, _, _, _, _, _, _, _, _, _, _, _, _, _, _, _, _, _, _, _, _, _, _, _, _, _, _, _, _, _, _,  rfl, rfl, by omega, ⟨by rw [viewTo_succ, viewAt_some _ _ _ _ _ _ init q p (by rw [HQA.out, HQB.out]; exact hpre) hU hq]; exact hV⟩, ⟨List.nodup_cons.2 ⟨fun hm => ?nd, HMK.out.1⟩, fun D' hD' => ?mk, fun D' hD' => ?ge⟩⟩)
        case nd => have := blk_lt (hM3 D hm); omega
        case ge =>
          rcases List.mem_cons.1 hD' with rfl | h1
          · omega
          · exact HMK.out.2.2 D' h1
        case mk =>
          rcases List.mem_cons.1 hD' with rfl | h1
          · exact hKD
          · exact hM D' h1
    · have hi0 := blk_cell HVS.out.img 0
      have hi1 := blk_cell HVS.out.img 1
      have hi2 := blk_cell HVS.out.img 2
      have hr0 := blk_cell HVS.out.res 0
      have hr1 := blk_cell HVS.out.res 1
      have hr2 := blk_cell HVS.out.res 2
      have hf0 := blk_frozen HVS.out.res 0
      have hf1 := blk_frozen HVS.out.res 1
      have hf2 := blk_frozen HVS.out.res 2
      go_wp2
      obtain rfl : k = N := by omega
      have hgg := HVS.out.gp2ge
      have hn1 : gp2 ≠ W.heap.size + 1 := by
        obtain ⟨cells, hcl⟩ := Kd.R_typed HVS.out.row gp2 rfl
        exact blk_ne hcl HVS.out.res (by decide)
      have hKO : KeepsOthers wr (((wr.setCell ⟨W.heap.size + 1, 0, none⟩ (.int .i64 c.x)).setCell ⟨W.heap.size + 1, 1, none⟩ (.int .i64 c.y)).setCell ⟨W.heap.size + 1, 2, none⟩ (.slice (some ⟨gp2, 0, none⟩) c.n cp2)) :=
        ((KeepsOthers.setCell _ _ _).trans (KeepsOthers.setCell _ _ _)).trans (KeepsOthers.setCell _ _ _)
      have hne : ∀ j q, q = gp2 → q ≠ (⟨W.heap.size + 1, j, none⟩ : Addr).block := fun j q e => by
        show q ≠ W.heap.size + 1
        omega
      have hrow := Kd.R_far (Kd.R_far (Kd.R_far HVS.out.row (hne 0) (.int .i64 c.x)) (hne 1) (.int .i64 c.y)) (hne 2) (.slice (some ⟨gp2, 0, none⟩) c.n cp2)
      have hbl : Below W.heap.size W (((wr.setCell ⟨W.heap.size + 1, 0, none⟩ (.int .i64 c.x)).setCell ⟨W.heap.size + 1, 1, none⟩ (.int .i64 c.y)).setCell ⟨W.heap.size + 1, 2, none⟩ (.slice (some ⟨gp2, 0, none⟩) c.n cp2)) :=
        ((HVS.out.bl.setCell (p := ⟨W.heap.size + 1, 0, none⟩) (Nat.le_succ _) _).setCell (p := ⟨W.heap.size + 1, 1, none⟩) (Nat.le_succ _) _).setCell (p := ⟨W.heap.size + 1, 2, none⟩) (Nat.le_succ _) _
      have hres := blk_set (blk_set (blk_set HVS.out.res 0 (.int .i64 c.x)) 1 (.int .i64 c.y)) 2 (.slice (some ⟨gp2, 0, none⟩) c.n cp2)
      have hMf : MkAt Ds (((wr.setCell ⟨W.heap.size + 1, 0, none⟩ (.int .i64 c.x)).setCell ⟨W.heap.size + 1, 1, none⟩ (.int .i64 c.y)).setCell ⟨W.heap.size + 1, 2, none⟩ (.slice (some ⟨gp2, 0, none⟩) c.n cp2)) := fun D hD => hKO.same D _ (HMK.out.2.1 D hD) rfl
      obtain ⟨wf, hwf⟩ : ∃ wf, ((wr.setCell ⟨W.heap.size + 1, 0, none⟩ (.int .i64 c.x)).setCell ⟨W.heap.size + 1, 1, none⟩ (.int .i64 c.y)).setCell ⟨W.heap.size + 1, 2, none⟩ (.slice (some ⟨gp2, 0, none⟩) c.n cp2) = wf := ⟨_, rfl⟩
      rw [hwf] at hrow hbl hres hMf ⊢
      clear hwf hr0 hr1 hr2 hf0 hf1 hf2
      have hnr : W.heap.size + 1 ∉ Ds := fun hm => by have h1 := hMf _ hm; rw [hres] at h1; cases h1
      have hng : gp2 ∉ Ds := fun hm => by
        obtain ⟨cells, hcl⟩ := Kd.R_typed hrow gp2 rfl
        have h1 := hMf _ hm
        rw [hcl] at h1
        cases h1
      refine leaves_marks Ds wf HMK.out.1 hMf (fun W' hkp h1 h2 h3 => ?_)
      have hres' := blk_kept hres hkp hnr
      have g0 := blk_cell hres' 0
      have g1 := blk_cell hres' 1
      have g2 := blk_cell hres' 2
      have hrow' := Kd.R_kept hrow hkp (fun q e => by rw [e]; exact hng)
      have hbl' : Below W.heap.size W W' := ⟨h1.trans hbl.os, h2.trans hbl.tape, h3.trans hbl.output, Nat.le_trans hbl.size hkp.1, fun q hq => (hkp.2 q (Nat.lt_of_lt_of_le hq hbl.size) (fun hm => by have := HMK.out.2.2 q hm; omega)).trans (hbl.block q hq)⟩
      refine ⟨.agg #[.int .i64 c.x, .int .i64 c.y, .slice (some ⟨gp2, 0, none⟩) c.n cp2], by simp [results, Try.results15, go_sem, g0, g1, g2], ?_⟩
      have hl := H.out.lp
      refine ⟨gp2, cp2, by rw [viewTo_length, ← hl], hgg, ?_, hbl'⟩
      rw [viewTo_length, ← hl, HNN.out]
      have h5 := hrow'
      rw [HNN.out] at h5
      exact h5
theorem view_walk {W : World} {n₀ : Nat} {c : Cv} {cnt : Nat} {ps : List S45} {ks : List Bool} (h : IsCv W n₀ c cnt ps ks) (hn : 0 < c.n) (wv : Bool) :
    Calls Try.prog 15 #[.pointer (some ⟨c.g, 0, none⟩), .bool wv] W fun e W' => ImgP c.x c.y W (viewTo c.x c.y ps ks wv c.n) e W' :=
  (callsIn_wide (n := 5)).1 (view_in h hn wv)
end Go.Proofs.Ytmeafgoifekffaa.Lib
