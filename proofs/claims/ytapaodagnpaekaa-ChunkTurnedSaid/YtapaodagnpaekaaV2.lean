/- chunk: Pack: walked by hand. -/
import Derived.Test.YtapaodagnpaekaaV1
namespace Go.Proofs.Ytapaodagnpaekaa.Lib
open Go.RowKit Go.Proofs.YtapaodagnpaekaaW.PrintWords Go.Proofs.YtapaodagnpaekaaW.PrintLast Go.Proofs.YtapaodagnpaekaaW.PrintMore
set_option linter.unusedVariables false
set_option linter.unusedSimpArgs false
theorem new_cell (w : World) (cs : Array Value) (e : Nat) (m : Nat × Nat) (j : Nat) : (w.alloc (.cells cs e m)).cell? ⟨w.heap.size, j, none⟩ = cs[j]? := by
  show (match (w.heap.push (.cells cs e m))[w.heap.size]? with | some (.cells cs _ _) => cs[j]? | _ => none) = _
  simp
/-- a row of one slice -/
theorem C_one_at {w : World} {b : Nat} {A : Option Addr} {x : List Int} {c e : Nat} {m : Nat × Nat} (hb : w.heap.size = b) (hc : x.length ≤ c) (h : Kd.C (Kd.int .u8) w A x.length x) :
    Kd.C (Kd.slice 5 (Kd.int .u8)) (w.alloc (.cells #[.slice A x.length c] e m)) (some ⟨b, 0, none⟩) [x].length [x] := by
  subst hb
  refine ⟨rfl, by simp, fun _ => ⟨_, rfl, fun j p hj => ⟨[.slice A x.length c], rfl, ?_, fun i u hi => ?_⟩⟩⟩
  · obtain rfl : j = 0 := by have := (List.getElem?_eq_some_iff.1 hj).1; simp at this; omega
    obtain rfl : x = p := by simpa using hj
    exact ⟨A, c, rfl, hc, Kd.C_alloc h _⟩
  · obtain rfl : j = 0 := by have := (List.getElem?_eq_some_iff.1 hj).1; simp at this; omega
    obtain rfl : i = 0 := by have := (List.getElem?_eq_some_iff.1 hi).1; simp at this; omega
    obtain rfl : u = .slice A x.length c := by simpa using hi.symm
    rw [add_plain]
    show World.cell? _ ⟨w.heap.size, 0 * 1 + 0, none⟩ = _
    rw [Nat.zero_mul, new_cell]
    rfl
/-- a row of two -/
theorem C_two_at {w : World} {b : Nat} {A B : Option Addr} {x y : List Int} {c d e : Nat} {m : Nat × Nat} (hb : w.heap.size = b) (hc : x.length ≤ c) (hd : y.length ≤ d) (h : Kd.C (Kd.int .u8) w A x.length x) (h' : Kd.C (Kd.int .u8) w B y.length y) :
    Kd.C (Kd.slice 5 (Kd.int .u8)) (w.alloc (.cells #[.slice A x.length c, .slice B y.length d] e m)) (some ⟨b, 0, none⟩) [x, y].length [x, y] := by
  subst hb
  refine ⟨rfl, by simp, fun _ => ⟨_, rfl, fun j p hj => ?_⟩⟩
  have hj2 : j < 2 := (List.getElem?_eq_some_iff.1 hj).1
  match j, hj2 with
  | 0, _ =>
    obtain rfl : x = p := by simpa using hj
    refine ⟨[.slice A x.length c], rfl, ⟨A, c, rfl, hc, Kd.C_alloc h _⟩, fun i u hi => ?_⟩
    obtain rfl : i = 0 := by have := (List.getElem?_eq_some_iff.1 hi).1; simp at this; omega
    obtain rfl : u = .slice A x.length c := by simpa using hi.symm
    rw [add_plain]
    show World.cell? _ ⟨w.heap.size, 0 * 1 + 0, none⟩ = _
    rw [Nat.zero_mul, new_cell]
    rfl
  | 1, _ =>
    obtain rfl : y = p := by simpa using hj
    refine ⟨[.slice B y.length d], rfl, ⟨B, d, rfl, hd, Kd.C_alloc h' _⟩, fun i u hi => ?_⟩
    obtain rfl : i = 0 := by have := (List.getElem?_eq_some_iff.1 hi).1; simp at this; omega
    obtain rfl : u = .slice B y.length d := by simpa using hi.symm
    rw [add_plain]
    show World.cell? _ ⟨w.heap.size, 1 * 1 + 0, none⟩ = _
    rw [Nat.mul_one, Nat.add_zero, new_cell]
    rfl
section
variable {P : Program} {ops : Array Oper} {o : Oper} {a : Act} {Q : Exit → Act → World → Prop} {Kc : Act → World → Prop}
theorem app_str_step {w0 W : World} (base : Nat) (hw : Region.wanted o (yielded ops a.tmps) = true) (s x : Operand) (t u e : TypeId)
    (ho : o.op = .call { callee := .builtin .append, args := #[s, x], argTypes := #[t, u] })
    (ht : P.underlying t = some (.slice e)) (hu : P.underlying u = some .string) (hinfo : (P.info? e).map (fun i => (i.zero, i.size, i.bytes)) = some (some (.int .u8 0), 1, 1))
    (v : Value) (xs : List Int) (y : ByteArray) (hs : a.eval s = v) (hx : a.eval x = .string y)
    (HO : Kd.R (Kd.int .u8) e W base (fun _ => True) v xs) (HB : Below base w0 W) (hbase : base ≤ W.heap.size) (hl : xs.length + y.size ≤ 140737488355328)
    (h : ∀ v1 w1, Kd.R (Kd.int .u8) e w1 base (fun _ => True) v1 (xs ++ bytesOf y) → Below base w0 w1 → W.grownBy w1 v.ownBlock → Kc (a.put o.dst v1) w1) :
    if Region.wanted o (yielded ops a.tmps) = true then Oper.wp P o a W Kc Q else Kc (a.put o.dst undef) W := by
  obtain ⟨i0, hi, hzz⟩ := Option.map_eq_some_iff.1 hinfo
  simp only [Prod.mk.injEq] at hzz
  obtain ⟨hz0, hz1, hz2⟩ := hzz
  have hown : W.ownsRow base e 1 v xs.length (nums .u8 xs) := Kd.own_of_R HO
  obtain ⟨v1, w1, hr, h2, h3, _⟩ := Lib.run_append_own_string (P := P) W base t u o.type e i0 ht hu hi hz0 hz1 hz2 v xs.length (nums .u8 xs) hown y (by simp only [maxLen]; omega) hl hbase
  have hl2 : (xs ++ bytesOf y).length = xs.length + y.size := by rw [List.length_append, bytesOf_length]
  have hc : nums .u8 (xs ++ bytesOf y) = nums .u8 xs ++ Lib.strCells y := by
    rw [nums_append]
    congr 1
    simp [nums, bytesOf, Lib.strCells]
  refine event_step (v := v1) (w1 := w1) hw ?_ (h v1 w1 (Kd.R_of_own (by rw [hl2]; rw [← hc] at h2; exact h2) (fun _ _ => trivial)) (HB.grown h3 hbase (own_base hown)) h3)
  unfold execOp
  simp only [ho, resolve, invoke, builtin, Sem.run_bind, Sem.run_pure, Result.andThen_ok, List.map_toArray, List.map_cons, List.map_nil, hs, hx, hr]
end
theorem bytes_C (W : World) (s : ByteArray) (hs : s.size ≤ 9223372036854775807) : Kd.C (Kd.int .u8) (Lib.bytesWorld W 5 s) (some ⟨W.heap.size, 0, none⟩) s.size (bytesOf s) := Kd.C_of_reads (bytes_reads W 5 s hs)
theorem bytes_B (W : World) (s : ByteArray) : Below W.heap.size W (Lib.bytesWorld W 5 s) := bytes_below (Below.refl _ _) (Nat.le_refl _) 5 s
theorem bytes_bytes (s : ByteArray) : Bytes (bytesOf s) := fun x hx => by
  obtain ⟨b, _, rfl⟩ := List.mem_map.1 hx
  have := b.toNat_lt
  omega
/-! what Pack tells -/
def kindB (s : ByteArray) : Bool := s.size == 4 && (bytesOf s).all letB
def oneL (c : S40) : List Int := be4 (c.f1.length : Int) ++ bytesOf c.f0 ++ c.f1 ++ be4 (moreN 0 (bytesOf c.f0 ++ c.f1))
def firstL : List Int := [137, 80, 78, 71, 13, 10, 26, 10]
def packL (cs : List S40) : List Int := firstL ++ cs.flatMap oneL
def sumL (cs : List S40) : Nat := (cs.map fun c => 12 + c.f1.length).sum
theorem sumL_snoc (cs : List S40) (t : Nat) (h : t < cs.length) : sumL (cs.take (t + 1)) = sumL (cs.take t) + (12 + (cs.getD t z40).f1.length) := by
  unfold sumL
  rw [List.take_succ_eq_append_getElem h, List.map_append, List.sum_append, List.getD_eq_getElem?_getD, List.getElem?_eq_getElem h]
  simp
theorem packL_snoc (cs : List S40) (t : Nat) (h : t < cs.length) : packL (cs.take (t + 1)) = packL (cs.take t) ++ oneL (cs.getD t z40) := by
  unfold packL
  rw [List.take_succ_eq_append_getElem h, List.flatMap_append, List.getD_eq_getElem?_getD, List.getElem?_eq_getElem h, List.append_assoc]
  simp
theorem oneL_length (c : S40) (h : c.f0.size = 4) : (oneL c).length = 12 + c.f1.length := by
  unfold oneL
  simp only [List.length_append, be4_length, bytesOf_length, h]
  omega
/-- chunks that Pack is asked for: not too many -/
structure Few (cs : List S40) : Prop where
  n : cs.length ≤ 101
  s : (cs.map fun c => c.f1.length).sum ≤ 5000
  b : ∀ c ∈ cs, Bytes c.f1
theorem sum_le (cs : List S40) : sumL cs = 12 * cs.length + (cs.map fun c => c.f1.length).sum := by
  unfold sumL
  induction cs with
  | nil => rfl
  | cons c cs ih => rw [List.map_cons, List.sum_cons, ih, List.map_cons, List.sum_cons, List.length_cons]; omega
theorem sumL_take (cs : List S40) (t : Nat) : sumL (cs.take t) ≤ sumL cs := by
  have h : sumL cs = sumL (cs.take t) + sumL (cs.drop t) := by
    unfold sumL
    rw [← List.sum_append, ← List.map_append, List.take_append_drop]
  omega
theorem Few.le {cs : List S40} (h : Few cs) (t : Nat) : sumL (cs.take t) ≤ 6212 := by
  have h1 := sumL_take cs t
  have h2 := sum_le cs
  have := h.n
  have := h.s
  omega
theorem Few.at_ {cs : List S40} (h : Few cs) (t : Nat) (ht : t < cs.length) : (cs.getD t z40).f1.length ≤ 5000 ∧ Bytes (cs.getD t z40).f1 := by
  have h1 := sumL_snoc cs t ht
  have h2 := h.le (t + 1)
  have h3 : cs.getD t z40 = cs[t] := by rw [List.getD_eq_getElem?_getD, List.getElem?_eq_getElem ht]; rfl
  refine ⟨?_, by rw [h3]; exact h.b _ (List.getElem_mem _)⟩
  have h4 : (cs.map fun c => c.f1.length).sum = ((cs.take t).map fun c => c.f1.length).sum + ((cs.drop t).map fun c => c.f1.length).sum := by rw [← List.sum_append, ← List.map_append, List.take_append_drop]
  rw [List.drop_eq_getElem_cons ht, List.map_cons, List.sum_cons] at h4
  rw [h3]
  have := h.s
  omega
end Go.Proofs.Ytapaodagnpaekaa.Lib
