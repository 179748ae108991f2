/- chunk: Pack: walked by hand. -/
import Derived.Test.YtapaodagnpaekaaV2
import Derived.Lib.SlBytesConst
import Derived.ArgAppend
namespace Go.Proofs.Ytapaodagnpaekaa.Lib
open Go.RowKit Go.Proofs.YtapaodagnpaekaaW.PrintWords Go.Proofs.YtapaodagnpaekaaW.PrintLast Go.Proofs.YtapaodagnpaekaaW.PrintMore
set_option linter.unusedVariables false
set_option linter.unusedSimpArgs false
theorem k40_at {w : World} {A : Option Addr} {n : Nat} {xs : List S40} (h : Kd.C k40 w A n xs) (i : Nat) (hi : i < n) : ∃ ad A1 c1, A = some ad ∧ w.cell? (ad.add (i * 2)) = some (.string (xs.getD i z40).f0) ∧ w.cell? ⟨(ad.add (i * 2)).block, (ad.add (i * 2)).off + 1, none⟩ = some (.slice A1 (xs.getD i z40).f1.length c1) ∧ (xs.getD i z40).f1.length ≤ c1 ∧ Kd.C (Kd.int .u8) w A1 (xs.getD i z40).f1.length (xs.getD i z40).f1 := by
  obtain ⟨ad, A1, c1, e, h0, h1, h2, h3⟩ := at_T40 h (i : Int) (by omega) (by omega)
  unfold rd_T40 at h0 h1 h2 h3
  simp only [Int.toNat_natCast] at h0 h1 h2 h3
  exact ⟨ad, A1, c1, e, h0, h1, h2, h3⟩
theorem conv_any (w : World) (b : Nat) (hb : w.heap.size = b) (C : Array Value) (n c : Nat) : (convert 26 26 (.slice (some ⟨b, 0, none⟩) n c)).run Try.prog (w.alloc (.cells C 5)) = .ok (.slice (some ⟨b, 0, none⟩) n c) (w.alloc (.cells C 5 (C.size, C.size + 1))) := by
  subst hb
  exact Lib.run_convert_bytes_const (P := Try.prog) w 26 5 C n c Try.underlying26 Try.underlying5
theorem C_new_at {w : World} {b : Nat} {xs : List Int} {e : Nat} {m : Nat × Nat} (hb : w.heap.size = b) (hn : xs.length ≤ 9223372036854775807) : Kd.C (Kd.int .u8) (w.alloc (.cells (nums .u8 xs).toArray e m)) (some ⟨b, 0, none⟩) xs.length xs := by
  subst hb
  refine Kd.C_of_reads (d := 0) ⟨rfl, hn, fun _ => ⟨_, rfl, fun j hj => ?_⟩⟩
  rw [add_plain]
  show World.cell? _ ⟨w.heap.size, j, none⟩ = _
  rw [new_cell]
  simp [nums, hj]
/-- bytes to which is appended: a row of one's own, or one that is full -/
def OutV (W : World) (base : Nat) (v : Value) (xs : List Int) : Prop := Kd.R (Kd.int .u8) 5 W base (fun _ => True) v xs ∨ ∃ g, v = .slice (some ⟨g, 0, none⟩) xs.length xs.length ∧ Kd.C (Kd.int .u8) W (some ⟨g, 0, none⟩) xs.length xs
theorem OutV.ext {W W1 : World} {base : Nat} {v : Value} {xs : List Int} (h : OutV W base v xs) (hb : Below W.heap.size W W1) : OutV W1 base v xs := by
  rcases h with h | ⟨g, e, h⟩
  · exact .inl (Kd.R_below h hb)
  · exact .inr ⟨g, e, Kd.C_below h hb⟩
section
variable {P : Program} {ops : Array Oper} {o : Oper} {a : Act} {Q : Exit → Act → World → Prop} {Kc : Act → World → Prop}
theorem cells_of_C {W : World} {A : Option Addr} {n : Nat} {xs : List Int} (h : Kd.C (Kd.int .u8) W A n xs) (hn : 0 < n) : ∃ ad, A = some ad ∧ ∀ j u, (nums .u8 xs)[j]? = some u → W.cell? (ad.add j) = some u := by
  have h2 : ReadsOf (Value.int .u8) (0 : Int) W A n xs := Kd.reads_of_C h
  obtain ⟨ad, e, hc⟩ := h2.2.2 hn
  refine ⟨ad, e, fun j u hj => ?_⟩
  have hl := h2.1
  have hj2 : j < xs.length := by
    have := (List.getElem?_eq_some_iff.1 hj).1
    simpa [nums] using this
  rw [hc j (by omega)]
  simp only [nums, List.getElem?_map, List.getElem?_eq_getElem hj2, Option.map_some, Option.some.injEq] at hj
  rw [← hj, List.getD_eq_getElem?_getD, List.getElem?_eq_getElem hj2]
  rfl
theorem out_step {w0 W : World} (base : Nat) (hw : Region.wanted o (yielded ops a.tmps) = true) (s x : Operand) (t : TypeId)
    (ho : o.op = .call { callee := .builtin .append, args := #[s, x], argTypes := #[t, t] })
    (ht : P.underlying t = some (.slice 5)) (hinfo : (P.info? 5).map (fun i => (i.zero, i.size, i.bytes)) = some (some (.int .u8 0), 1, 1))
    (v : Value) (xs ys : List Int) (A : Option Addr) (m c : Nat) (hs : a.eval s = v) (hx : a.eval x = .slice A m c)
    (HO : OutV W base v xs) (HR : Kd.C (Kd.int .u8) W A m ys) (hm : 0 < m) (HB : Below base w0 W) (hbase : base ≤ W.heap.size) (hl : xs.length + m ≤ 140737488355328)
    (h : ∀ v1 w1, Kd.R (Kd.int .u8) 5 w1 base (fun _ => True) v1 (xs ++ ys) → Below base w0 w1 → (∀ (g : Nat) (cs : Array Value) (q : Nat), W.heap[g]? = some (.cells cs q (0, 0)) → q ≠ 5 → w1.heap[g]? = some (.cells cs q (0, 0))) → Kc (a.put o.dst v1) w1) :
    if Region.wanted o (yielded ops a.tmps) = true then Oper.wp P o a W Kc Q else Kc (a.put o.dst undef) W := by
  rcases HO with HO | ⟨g, rfl, HO⟩
  · refine Kd.R_append_rows_step (Kd.int .u8) (w0 := w0) base hw s x t 5 (.int .u8 0) 1 ho ht hinfo rfl (by decide) (by decide) v xs ys A m c (fun _ => True) (fun _ => False) hs hx HO HR (fun _ _ h => h) (fun _ h => h.elim) (fun _ _ => trivial) HB hbase (by omega) ?_
    intro v1 w1 h1 h2 h3 _
    exact h v1 w1 h1 h2 (fun g cs q hg hq => blk_grown hg h3 (Kd.R_ne HO hg (fun e => hq e.symm)))
  · obtain ⟨i0, hi, hzz⟩ := Option.map_eq_some_iff.1 hinfo
    simp only [Prod.mk.injEq] at hzz
    obtain ⟨hz0, hz1, hz2⟩ := hzz
    obtain ⟨ad, rfl, hcy⟩ := cells_of_C HR hm
    have hml : ys.length = m := HR.1
    have hcx : ∀ j u, (nums .u8 xs)[j]? = some u → W.cell? (Addr.add ⟨g, 0, none⟩ j) = some u := by
      intro j u hj
      have hj2 : j < xs.length := by
        have := (List.getElem?_eq_some_iff.1 hj).1
        simpa [nums] using this
      obtain ⟨ad2, e2, hc2⟩ := cells_of_C HO (by omega)
      injection e2 with e2
      subst e2
      exact hc2 j u hj
    obtain ⟨v1, w1, hr, h2, h3⟩ := run_append_arg_grows (P := P) W t o.type 5 i0 (.int .u8 0) 1 1 ht hi hz0 hz1 hz2 rfl (by decide) ⟨g, 0, none⟩ xs.length xs.length (nums .u8 xs) (by simp [nums]) hcx ad m c (nums .u8 ys) (by simp [nums, hml]) hcy (by omega) (by simp only [maxLen]; omega) (by omega)
    refine event_step (v := v1) (w1 := w1) hw ?_ (h v1 w1 ?_ ?_ (fun g cs q hg hq => blk_grown hg h3 (by simp)))
    · unfold execOp
      simp only [ho, resolve, invoke, builtin, Sem.run_bind, Sem.run_pure, Result.andThen_ok, List.map_toArray, List.map_cons, List.map_nil, hs, hx, hr]
    · rw [← nums_append] at h2
      have h4 : (xs ++ ys).length = xs.length + m := by rw [List.length_append, hml]
      rw [← h4] at h2
      exact Kd.R_lower (Kd.R_of_own h2 (fun _ _ => trivial)) hbase
    · exact HB.grown h3 hbase (fun k hk => by cases hk)
end
theorem of_two (W : World) (b : Nat) (hb : W.heap.size = b) (A B : Option Addr) (x y : List Int) (n m c d : Nat) (hx : x.length = n) (hy : y.length = m) (hc : n ≤ c) (hd : m ≤ d) (hX : Kd.C (Kd.int .u8) W A n x) (hY : Kd.C (Kd.int .u8) W B m y) (bx : Bytes x) (byy : Bytes y) (hs : n ≤ 1048576 ∧ m ≤ 1048576) :
    Calls Try.prog 24 #[.slice (some ⟨b, 0, none⟩) 2 2] (W.alloc (.cells #[.slice A n c, .slice B m d] 26)) fun e w' => e = .returned (.int .u32 (moreN 0 (x ++ y))) ∧ Drawn0 (W.alloc (.cells #[.slice A n c, .slice B m d] 26)) w' := by
  subst hx hy
  have h := of_any (some ⟨b, 0, none⟩) 2 2 [x, y] (W.alloc (.cells #[.slice A x.length c, .slice B y.length d] 26)) (fun p hp => by
    simp at hp
    rcases hp with rfl | rfl <;> assumption) (fun p hp => by
    simp at hp
    rcases hp with rfl | rfl <;> omega) rfl (by omega) (C_two_at hb hc hd hX hY) (Nat.le_refl _)
  simpa using h
theorem all_not {cs : List S40} {t : Nat} (ht : t < cs.length) (h : kindB (cs.getD t z40).f0 = false) : cs.all (fun c => kindB c.f0) = false := by
  rw [List.all_eq_false]
  refine ⟨cs[t], List.getElem_mem _, ?_⟩
  rw [List.getD_eq_getElem?_getD, List.getElem?_eq_getElem ht] at h
  have h2 : kindB cs[t].f0 = false := h
  rw [h2]
  simp
theorem all_snoc {cs : List S40} {t : Nat} (ht : t < cs.length) (h : (cs.take t).all (fun c => kindB c.f0) = true) (h2 : kindB (cs.getD t z40).f0 = true) : (cs.take (t + 1)).all (fun c => kindB c.f0) = true := by
  rw [List.take_succ_eq_append_getElem ht, List.all_append, h]
  rw [List.getD_eq_getElem?_getD, List.getElem?_eq_getElem ht] at h2
  have h3 : kindB cs[t].f0 = true := h2
  simp [h3]
theorem box40 {W : World} {g : Nat} {a b : Value} (h : W.heap[g]? = some (.cells #[a, b] 40 (0, 0))) : W.cell? ⟨g, 0, none⟩ = some a ∧ W.cell? ⟨g, 1, none⟩ = some b := ⟨blk_cell h 0, blk_cell h 1⟩
theorem flat_len (cs : List S40) (h : ∀ c ∈ cs, c.f0.size = 4) : (cs.flatMap oneL).length = sumL cs := by
  unfold sumL
  induction cs with
  | nil => rfl
  | cons c cs ih =>
    rw [List.flatMap_cons, List.length_append, ih (fun c hc => h c (List.mem_cons_of_mem _ hc)), oneL_length c (h c (by simp)), List.map_cons, List.sum_cons]
theorem kind_size {s : ByteArray} (h : kindB s = true) : s.size = 4 := by
  simp [kindB] at h
  exact h.1
theorem pack_len {cs : List S40} (h : Few cs) (hk : cs.all (fun c => kindB c.f0) = true) (t : Nat) : (packL (cs.take t)).length ≤ 10000 := by
  have h1 := h.le t
  unfold packL
  rw [List.length_append, flat_len _ (fun c hc => kind_size (List.all_eq_true.1 hk c (List.mem_of_mem_take hc)))]
  show 8 + _ ≤ _
  omega
/-- what Pack tells -/
def PackP (cs : List S40) (W : World) (e : Ending) (W' : World) : Prop :=
  Below W.heap.size W W' ∧ ((cs.all (fun c => kindB c.f0) = false ∧ e = .returned (.tuple #[.slice none 0 0, .int .i64 1])) ∨
    (cs.all (fun c => kindB c.f0) = true ∧ ∃ A c, e = .returned (.tuple #[.slice A (packL cs).length c, .int .i64 0]) ∧ OutV W' W.heap.size (.slice A (packL cs).length c) (packL cs) ∧ (0 < cs.length → Kd.R (Kd.int .u8) 5 W' W.heap.size (fun _ => True) (.slice A (packL cs).length c) (packL cs))))
set_option maxHeartbeats 1000000 in
set_option maxRecDepth 100000 in
theorem pack_walk (A0 : Option Addr) (n c0 : Nat) (cs : List S40) (w : World) (hn : cs.length = n) (hC : Kd.C k40 w A0 n cs) (hF : Few cs) :
    Calls Try.prog 15 #[.slice A0 n c0] w fun e w' => PackP cs w e w' := by
  have HC := Aside0.mk hC
  have HF := Aside0.mk hF
  have HN := Aside0.mk hn
  have hn1 : n ≤ 101 := by rw [← hn]; exact hF.n
  have kb := fun (w : World) (s : ByteArray) => print_bytes (P := Try.prog) 9 26 5 Try.underlying9 Try.underlying26 Try.underlying5 s w
  clear hC hF hn
  go_enter Try.func15, Try.ntmps15
  go_wp2
  go_loopw [4, 5, 14] (fun a l i wr => ∃ t : Nat, t ≤ n ∧ a = .int .i64 (8 + sumL (cs.take t) : Nat) ∧ l = .bool false ∧ i = .int .i64 t ∧ Aside0 ((cs.take t).all (fun c => kindB c.f0) = true) ∧ Aside0 (Below w.heap.size w wr)) (fun _ _ i _ => n - (intOf i).toNat)
  case atStart => exact ⟨0, Nat.zero_le _, rfl, rfl, rfl, ⟨rfl⟩, ⟨Below.refl _ _⟩⟩
  case round =>
    obtain ⟨t, ht, rfl, rfl, rfl, HK, HB⟩ := hrel
    obtain ⟨wo, rfl⟩ : ∃ wo : World, wo = wr := ⟨_, rfl⟩
    have HLE := HF.out.le t
    obtain ⟨q, hq⟩ : ∃ q, 8 + sumL (cs.take t) = q := ⟨_, rfl⟩
    have HQ := Aside0.mk hq
    have hq1 : q ≤ 6220 := by omega
    rw [hq]
    clear hq HLE
    by_cases hlt : t < n
    · obtain ⟨ad, A1, c1, rfl, hx0, hx1, h2, h3⟩ := k40_at (Kd.C_below HC.out HB.out) t hlt
      obtain ⟨hs1, hs2⟩ := HF.out.at_ t (by rw [HN.out]; exact hlt)
      obtain ⟨⟨s, d⟩, hx⟩ : ∃ v, cs.getD t z40 = v := ⟨_, rfl⟩
      rw [hx] at hx0 hx1 h2 h3 hs1 hs2
      simp only at hx0 hx1 h2 h3 hs1 hs2
      obtain ⟨m, hm⟩ : ∃ m, d.length = m := ⟨_, rfl⟩
      rw [hm] at hx1 h2 h3 hs1
      have HX := Aside0.mk hx
      have HM := Aside0.mk hm
      have HD := Aside0.mk h3
      clear hx hm h3 hs2
      by_cases hsz : s.size = 4
      · cases hnm : (bytesOf s).all letB with
        | true =>
          have HKB := Aside0.mk (show kindB (cs.getD t z40).f0 = true from by rw [HX.out]; simp [kindB, hsz, hnm])
          have HNM := Aside0.mk (fun W b (hb : W.heap.size = b) => named_any (some ⟨b, 0, none⟩) 4 (grownCap W 4 0 5) (bytesOf s) (Lib.bytesWorld W 5 s) (by rw [bytesOf_length, hsz]) (by subst hb; have h := bytes_C W s (by omega); rw [hsz] at h; exact h) (grownCap_ge _ _ _ _) (by omega))
          rw [hnm] at HNM
          clear hnm
          go_wp2_with (first
            | (go_at_call 23; refine (HNM.out (wo.alloc (.cells #[.string s, .slice A1 m c1] 40)) _ (by simp)).mono ?_; rintro e w5 ⟨rfl, q5, rfl⟩; have HBX := Aside0.mk (blk_below (heap_alloc_new wo (.cells #[.string s, .slice A1 m c1] 40)) (bytes_B _ s)); have HB5 := Aside0.mk (below_then (below_alloc (Below.refl _ _) _) (by simp) (bytes_B (wo.alloc (.cells #[.string s, .slice A1 m c1] 40)) s)); have hb0 := blk_cell HBX.out 0; have hb1 := blk_cell HBX.out 1))
          exact ⟨⟨t + 1, by omega, by rw [sumL_snoc cs t (by rw [HN.out]; exact hlt), HX.out]; simp only [HM.out]; rw [← HQ.out]; push_cast; congr 1; omega, rfl, by push_cast; rfl, ⟨all_snoc (by rw [HN.out]; exact hlt) HK.out HKB.out⟩, ⟨pw_below_drewN (below_then HB.out HB.out.size HB5.out) _⟩⟩, by simp [intOf]; omega⟩
        | false =>
          have HKB := Aside0.mk (show kindB (cs.getD t z40).f0 = false from by rw [HX.out]; simp [kindB, hnm])
          have HNM := Aside0.mk (fun W b (hb : W.heap.size = b) => named_any (some ⟨b, 0, none⟩) 4 (grownCap W 4 0 5) (bytesOf s) (Lib.bytesWorld W 5 s) (by rw [bytesOf_length, hsz]) (by subst hb; have h := bytes_C W s (by omega); rw [hsz] at h; exact h) (grownCap_ge _ _ _ _) (by omega))
          rw [hnm] at HNM
          clear hnm
          go_wp2_with (first
            | (go_at_call 23; refine (HNM.out (wo.alloc (.cells #[.string s, .slice A1 m c1] 40)) _ (by simp)).mono ?_; rintro e w5 ⟨rfl, q5, rfl⟩; have HB5 := Aside0.mk (below_then (below_alloc (Below.refl _ _) _) (by simp) (bytes_B (wo.alloc (.cells #[.string s, .slice A1 m c1] 40)) s))))
          go_ret2
          exact ⟨pw_below_drewN (below_then HB.out HB.out.size HB5.out) _, .inl ⟨all_not (by rw [HN.out]; exact hlt) HKB.out, rfl⟩⟩
      · have hsz2 : ((s.size : Int) != 4) = true := by simp; omega
        have HKB := Aside0.mk (show kindB (cs.getD t z40).f0 = false from by rw [HX.out]; simp [kindB, hsz])
        go_wp2
        go_ret2
        exact ⟨below_alloc HB.out _, .inl ⟨all_not (by rw [HN.out]; exact hlt) HKB.out, rfl⟩⟩
    · obtain rfl : n = t := by omega
      have HKA := Aside0.mk (show cs.all (fun c => kindB c.f0) = true from by have h := HK.out; rwa [List.take_of_length_le (by rw [HN.out]; exact Nat.le_refl _)] at h)
      have hcv := conv_any wo wo.heap.size rfl
      go_wp2
      obtain ⟨wa, hwa⟩ : ∃ wa, wo.alloc (.cells #[.int .u8 137, .int .u8 80, .int .u8 78, .int .u8 71, .int .u8 13, .int .u8 10, .int .u8 26, .int .u8 10] 5 (8, 9)) = wa := ⟨_, rfl⟩
      have HO0 := Aside0.mk (show OutV wa w.heap.size (.slice (some ⟨wo.heap.size, 0, none⟩) 8 8) (packL (cs.take 0)) from .inr ⟨wo.heap.size, rfl, by rw [← hwa]; exact C_new_at (xs := firstL) (e := 5) (m := (8, 9)) rfl (by decide)⟩)
      have HB0 := Aside0.mk (show Below w.heap.size w wa from by rw [← hwa]; exact below_then HB.out HB.out.size ((Below.refl _ _).alloc (Nat.le_refl _) _))
      rw [hwa]
      clear hwa hcv HK HB
      go_loopw [8, 53] (fun v i wr => ∃ (t : Nat) (u : Value), u = v ∧ i = .int .i64 t ∧ t ≤ n ∧ Aside0 (OutV wr w.heap.size u (packL (cs.take t))) ∧ Aside0 (0 < t → Kd.R (Kd.int .u8) 5 wr w.heap.size (fun _ => True) u (packL (cs.take t))) ∧ Aside0 (Below w.heap.size w wr)) (fun _ i _ => n - (intOf i).toNat)
      case atStart => exact ⟨0, _, rfl, rfl, Nat.zero_le _, HO0, ⟨fun h => absurd h (Nat.lt_irrefl 0)⟩, HB0⟩
      case round =>
        clear HO0 HB0
        obtain ⟨t, u, rfl, rfl, ht, HO, HOR, HB⟩ := hrel
        obtain ⟨wi, rfl⟩ : ∃ wi : World, wi = wr := ⟨_, rfl⟩
        by_cases hlt : t < n
        · obtain ⟨ad, A1, c1, rfl, hx0, hx1, h2, h3⟩ := k40_at HC.out t hlt
          replace hx0 := pw_cell_below HB.out hx0
          replace hx1 := pw_cell_below HB.out hx1
          obtain ⟨hs1, hs2⟩ := HF.out.at_ t (by rw [HN.out]; exact hlt)
          have hkb : kindB (cs.getD t z40).f0 = true := by
            have h := List.all_eq_true.1 HKA.out (cs.getD t z40) (by rw [List.getD_eq_getElem?_getD, List.getElem?_eq_getElem (by rw [HN.out]; exact hlt)]; exact List.getElem_mem _)
            exact h
          obtain ⟨⟨s, d⟩, hx⟩ : ∃ v, cs.getD t z40 = v := ⟨_, rfl⟩
          rw [hx] at hx0 hx1 h2 h3 hs1 hs2 hkb
          simp only at hx0 hx1 h2 h3 hs1 hs2 hkb
          obtain ⟨m, hm⟩ : ∃ m, d.length = m := ⟨_, rfl⟩
          rw [hm] at hx1 h2 h3 hs1
          have HX := Aside0.mk hx
          have HM := Aside0.mk hm
          have HD := Aside0.mk h3
          have HBD := Aside0.mk hs2
          have hsz : s.size = 4 := by
            have h : kindB s = true := hkb
            simp [kindB] at h
            exact h.1
          have HPL := Aside0.mk (show (packL (cs.take t)).length ≤ 10000 from by
            exact pack_len HF.out HKA.out t)
          have HOF := Aside0.mk (of_two (Lib.bytesWorld (wi.alloc (.cells #[.string s, .slice A1 m c1] 40)) 5 s) (wi.heap.size + 1 + 1) (by simp [Lib.bytesWorld_size]) (some ⟨wi.heap.size + 1, 0, none⟩) A1 (bytesOf s) d 4 m (grownCap (wi.alloc (.cells #[.string s, .slice A1 m c1] 40)) 4 0 5) c1 (by rw [bytesOf_length, hsz]) hm (grownCap_ge _ _ _ _) h2 (by have h := bytes_C (wi.alloc (.cells #[.string s, .slice A1 m c1] 40)) s (by omega); rw [hsz] at h; simpa using h) (Kd.C_below (Kd.C_alloc (Kd.C_below h3 HB.out) _) (bytes_B _ s)) (bytes_bytes s) hs2 (by omega))
          have HBX := Aside0.mk (blk_below (heap_alloc_new wi (.cells #[.string s, .slice A1 m c1] 40)) (bytes_B _ s))
          have hb0 := blk_cell HBX.out 0
          have hb1 := blk_cell HBX.out 1
          have hbs : (Lib.bytesWorld (wi.alloc (.cells #[.string s, .slice A1 m c1] 40)) 5 s).heap.size = wi.heap.size + 1 + 1 := by simp [Lib.bytesWorld_size]
          clear hx hm h3 hs2 hkb
          go_wp2_with (first
            | (go_at_call 24; with_reducible refine HOF.out.mono ?_; rintro e w6 ⟨rfl, q6, rfl⟩))
          obtain ⟨wj, hwj⟩ : ∃ wj, (((Lib.bytesWorld (wi.alloc (.cells #[.string s, .slice A1 m c1] 40)) 5 s).alloc (.cells #[.slice (some ⟨wi.heap.size + 1, 0, none⟩) 4 (grownCap (wi.alloc (.cells #[.string s, .slice A1 m c1] 40)) 4 0 5), .slice A1 m c1] 26)).drewN q6) = wj := ⟨_, rfl⟩
          have HIJ := Aside0.mk (show Below wi.heap.size wi wj from by
            rw [← hwj]
            exact pw_below_drewN (below_alloc (below_then (below_alloc (Below.refl _ _) _) (by simp) (bytes_B _ s)) _) _)
          have HJX := Aside0.mk (show wj.drew.heap[wi.heap.size]? = some (.cells #[.string s, .slice A1 m c1] 40 (0, 0)) from by rw [← hwj]; exact blk_alloc HBX.out _)
          have HJO := Aside0.mk (show OutV wj.drew w.heap.size u (packL (cs.take t)) from HO.out.ext (below_drew HIJ.out))
          have HJB := Aside0.mk (show Below w.heap.size w wj.drew from below_then HB.out HB.out.size (below_drew HIJ.out))
          rw [hwj]
          clear hwj hb0 hb1 hbs hx0 hx1
          have hmi0 : (0 : Int) ≤ (m : Int) := by omega
          have hmi1 : (m : Int) < 4294967296 := by omega
          have HZ1 := Aside0.mk (show (packL (cs.take t)).length + 4 ≤ 140737488355328 from by have := HPL.out; omega)
          have HZ2 := Aside0.mk (show (packL (cs.take t) ++ be4 m).length + s.size ≤ 140737488355328 from by rw [List.length_append, be4_length]; have := HPL.out; omega)
          have HZ3 := Aside0.mk (show ((packL (cs.take t) ++ be4 m ++ bytesOf s).length + m) * 1 ≤ 140737488355328 from by rw [List.length_append, List.length_append, be4_length, bytesOf_length]; have := HPL.out; omega)
          go_region_held3 (fun w' => w'.cell? ⟨wi.heap.size, 0, none⟩ = some (.string s) ∧ w'.cell? ⟨wi.heap.size, 1, none⟩ = some (.slice A1 m c1)) ((refine box40 ?_; first | exact HX6.out | exact HX5.out | exact HX4.out | exact HX3.out | exact HJX.out)) (first
            | (go_at_call 29; refine (putbig_walk m hmi0 hmi1 _).mono ?_; rintro e w3 ⟨g3, c3, rfl, hR3, hb3⟩; have HR3 := Aside0.mk (Kd.R_reads' hR3); have HX3 := Aside0.mk (blk_below HJX.out hb3); have HO3 := Aside0.mk (HJO.out.ext hb3); have HB3 := Aside0.mk (below_then HJB.out HJB.out.size hb3); clear hR3 hb3)
            | (refine out_step (w0 := w) w.heap.size (by rfl) (.tmp 64) (.tmp 68) 26 rfl Try.underlying26 info5 u (packL (cs.take t)) (be4 m) (some ⟨g3, 0, none⟩) 4 c3 (by rfl) (by rfl) HO3.out HR3.out.2.2 (by decide) HB3.out HB3.out.size HZ1.out ?_; intro v4 w4 hR4 hb4 hk4; have HR4 := Aside0.mk hR4; have HB4 := Aside0.mk hb4; have HX4 := Aside0.mk (hk4 _ _ _ HX3.out (by decide)); clear hR4 hb4 hk4)
            | (refine app_str_step (w0 := w) w.heap.size (by rfl) (.tmp 69) (.tmp 71) 26 9 5 rfl Try.underlying26 Try.underlying9 info5 v4 (packL (cs.take t) ++ be4 m) s (by rfl) (by rfl) HR4.out HB4.out HB4.out.size HZ2.out ?_; intro v5 w5 hR5 hb5 hg5; have HR5 := Aside0.mk hR5; have HB5 := Aside0.mk hb5; have HX5 := Aside0.mk (blk_grown HX4.out hg5 (Kd.R_ne HR4.out HX4.out (by decide))); clear hR5 hb5 hg5)
            | (refine Kd.R_append_rows_step (Kd.int .u8) (w0 := w) w.heap.size (by rfl) (.tmp 72) (.tmp 74) 26 5 (.int .u8 0) 1 rfl Try.underlying26 info5 rfl (by decide) (by decide) v5 (packL (cs.take t) ++ be4 m ++ bytesOf s) d A1 m c1 (fun _ => True) (fun _ => False) (by rfl) (by rfl) HR5.out (Kd.C_below HD.out HB5.out) (fun _ _ h => h) (fun _ h => h.elim) (fun _ _ => trivial) HB5.out HB5.out.size HZ3.out ?_; intro v6 w6 hR6 hb6 hg6 hat6; have HR6 := Aside0.mk hR6; have HB6 := Aside0.mk hb6; have HX6 := Aside0.mk (blk_grown HX5.out hg6 (Kd.R_ne HR5.out HX5.out (by decide))); clear hR6 hb6 hg6 hat6))
          have hms := moreN_range 0 (bytesOf s ++ d)
          obtain ⟨sm, hsm⟩ : ∃ sm, moreN 0 (bytesOf s ++ d) = sm := ⟨_, rfl⟩
          have HSM := Aside0.mk hsm
          rw [hsm] at hms ⊢
          clear hsm
          obtain ⟨hm0, hm1⟩ := hms
          have hpl6 : (packL (cs.take t) ++ be4 m ++ bytesOf s ++ d).length ≤ 20000 := by
            rw [List.length_append, List.length_append, List.length_append, be4_length, bytesOf_length, HM.out]
            have := HPL.out
            omega
          go_wp2_with (first
            | (go_at_call 29; refine (putbig_walk sm hm0 hm1 _).mono ?_; rintro e w7 ⟨g7, c7, rfl, hR7, hb7⟩; have HR7 := Aside0.mk (Kd.R_reads' hR7); have HO7 := Aside0.mk (Kd.R_below HR6.out hb7); have HB7 := Aside0.mk (below_then HB6.out HB6.out.size hb7); clear hR7 hb7)
            | (at_builtin; refine Kd.R_append_rows (Kd.int .u8) (w0 := w) w.heap.size rfl (.tmp 76) (.tmp 80) 26 5 (.int .u8 0) 1 rfl Try.underlying26 info5 rfl (by decide) (by decide) v6 (packL (cs.take t) ++ be4 m ++ bytesOf s ++ d) (be4 sm) (some ⟨g7, 0, none⟩) 4 c7 (fun _ => True) (fun _ => False) rfl rfl HO7.out HR7.out.2.2 (fun _ _ h => h) (fun _ h => h.elim) (fun _ _ => trivial) HB7.out HB7.out.size (by omega) ?_; intro v8 w8 hR8 hb8 hg8 hat8; have HR8 := Aside0.mk hR8; have HB8 := Aside0.mk hb8; clear hR8 hb8 hg8 hat8)
            | (at_builtin; refine Kd.R_append_rows (Kd.int .u8) (w0 := w) w.heap.size rfl (.tmp 76) (.tmp 79) 26 5 (.int .u8 0) 1 rfl Try.underlying26 info5 rfl (by decide) (by decide) v6 (packL (cs.take t) ++ be4 m ++ bytesOf s ++ d) (be4 sm) (some ⟨g7, 0, none⟩) 4 c7 (fun _ => True) (fun _ => False) rfl rfl HO7.out HR7.out.2.2 (fun _ _ h => h) (fun _ h => h.elim) (fun _ _ => trivial) HB7.out HB7.out.size (by omega) ?_; intro v8 w8 hR8 hb8 hg8 hat8; have HR8 := Aside0.mk hR8; have HB8 := Aside0.mk hb8; clear hR8 hb8 hg8 hat8))
          have HR9 := Aside0.mk (show Kd.R (Kd.int .u8) 5 w8 w.heap.size (fun _ => True) v8 (packL (cs.take (t + 1))) from by
            have e : packL (cs.take (t + 1)) = packL (cs.take t) ++ be4 m ++ bytesOf s ++ d ++ be4 sm := by
              rw [packL_snoc cs t (by rw [HN.out]; exact hlt), HX.out]
              simp only [oneL, HM.out, HSM.out, List.append_assoc]
            rw [e]
            exact HR8.out)
          exact ⟨⟨t + 1, _, rfl, by push_cast; rfl, by omega, ⟨.inl HR9.out⟩, ⟨fun _ => HR9.out⟩, HB8⟩, by simp [intOf]; omega⟩
        · obtain rfl : n = t := by omega
          go_wp2
          go_ret2
          have h := HO.out
          rw [List.take_of_length_le (by rw [HN.out]; exact Nat.le_refl _)] at h
          have h2 := HOR.out
          rw [List.take_of_length_le (by rw [HN.out]; exact Nat.le_refl _)] at h2
          refine ⟨HB.out, .inr ⟨HKA.out, ?_⟩⟩
          have h3 : ∃ A c, u = .slice A (packL cs).length c := by
            rcases h with h | ⟨g, e, _⟩
            · exact Kd.R_slice h
            · exact ⟨_, _, e⟩
          obtain ⟨A, c, rfl⟩ := h3
          exact ⟨A, c, rfl, h, fun hp => h2 (by rw [← HN.out]; exact hp)⟩
end Go.Proofs.Ytapaodagnpaekaa.Lib
