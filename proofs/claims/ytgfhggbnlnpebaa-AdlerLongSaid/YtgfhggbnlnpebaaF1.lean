/- The fixed calls of the statements of layer 4 answer true: their walk. -/
import Derived.Test.YtgfhggbnlnpebaaF0
import Derived.Lib.SlBytesConst
namespace Go.Proofs.Ytgfhggbnlnpebaa.Lib
open Go.RowKit Go.Proofs.YtgfhggbnlnpebaaW.PrintWords Go.Proofs.YtgfhggbnlnpebaaW.PrintLast Go.Proofs.YtgfhggbnlnpebaaW.PrintMore
theorem C_new (w : World) (xs : List Int) (e : Nat) (m : Nat × Nat) (hn : xs.length ≤ 9223372036854775807) : Kd.C (Kd.int .u8) (w.alloc (.cells (nums .u8 xs).toArray e m)) (some ⟨w.heap.size, 0, none⟩) xs.length xs := by
  refine ⟨rfl, hn, fun _ => ⟨_, rfl, fun j p hj => ⟨[.int .u8 p], rfl, rfl, fun i u hi => ?_⟩⟩⟩
  have hl := (List.getElem?_eq_some_iff.1 hj).1
  obtain rfl : i = 0 := by have := (List.getElem?_eq_some_iff.1 hi).1; simp at this; omega
  obtain rfl : u = .int .u8 p := by simpa using hi.symm
  rw [add_plain]
  show World.cell? _ ⟨w.heap.size, j * 1 + 0, none⟩ = _
  rw [Nat.mul_one, Nat.add_zero]
  show (match (w.heap.push (.cells (nums .u8 xs).toArray e m))[w.heap.size]? with | some (.cells cs _ _) => cs[j]? | _ => none) = _
  simp [nums, hj]
theorem C_new_at {w : World} {b : Nat} {xs : List Int} {e : Nat} {m : Nat × Nat} (hb : w.heap.size = b) (hn : xs.length ≤ 9223372036854775807) : Kd.C (Kd.int .u8) (w.alloc (.cells (nums .u8 xs).toArray e m)) (some ⟨b, 0, none⟩) xs.length xs := by
  subst hb; exact C_new w xs e m hn
theorem of1 : adler_Of.f 20 [87, 105, 107, 105, 112, 101, 100, 105, 97] = some 300286872 := by decide +kernel
theorem of2 : adler_Of.f 20 [] = some 1 := by decide +kernel
theorem of3 : adler_Of.f 20 [87, 105, 107, 105] = some 64618901 := by decide +kernel
theorem of4 : adler_Of.f 20 [112, 101, 100, 105, 97] = some 103285252 := by decide +kernel
theorem jo : adler_Join.f 64618901 103285252 5 = some 300286872 := by decide +kernel
theorem is1 : adler_Is.f 1 = some true := by decide +kernel
theorem is2 : adler_Is.f 65521 = some false := by decide +kernel
theorem conv_any (w : World) (b : Nat) (hb : w.heap.size = b) (C : Array Value) (n c : Nat) : (convert 23 23 (.slice (some ⟨b, 0, none⟩) n c)).run Try.prog (w.alloc (.cells C 5)) = .ok (.slice (some ⟨b, 0, none⟩) n c) (w.alloc (.cells C 5 (C.size, C.size + 1))) := by
  subst hb
  exact Lib.run_convert_bytes_const (P := Try.prog) w 23 5 C n c Try.underlying23 Try.underlying5
set_option maxRecDepth 100000 in
theorem fixed_walk (w : World) : Calls Try.prog 8 #[] w fun e w' => e = .returned (.bool true) ∧ Below w.heap.size w w' := by
  have kc := conv_any
  go_enter Try.func8, Try.ntmps8
  go_wp2_with fail
  refine (adler_Of.calls 20 _ _ [87, 105, 107, 105, 112, 101, 100, 105, 97] _ _ (C_new_at (by show (w.heap.push _ |>.push _).size = _; simp) (by simp)) (by simp) of1).mono ?_
  rintro e w1 ⟨rfl, hb1⟩
  have HA := Aside0.mk (C_new_at (w := w) (b := w.heap.size) (xs := [87, 105, 107, 105]) (e := 5) (m := (4, 5)) rfl (by simp))
  have HC := Aside0.mk (C_new_at (w := w.alloc (.cells #[.int .u8 87, .int .u8 105, .int .u8 107, .int .u8 105] 5 (4, 5))) (b := w.heap.size + 1) (xs := [112, 101, 100, 105, 97]) (e := 5) (m := (5, 6)) (by simp) (by simp))
  replace HA := Aside0.mk (Kd.C_below (Kd.C_alloc (Kd.C_alloc HA.out _) _) hb1)
  replace HC := Aside0.mk (Kd.C_below (Kd.C_alloc HC.out _) hb1)
  replace hb1 := Aside0.mk (below_step (((Below.refl w.heap.size w).alloc (Nat.le_refl _) _).alloc (by simp) _ |>.alloc (by simp; omega) _) hb1)
  go_wp2_with fail
  refine (adler_Of.calls 20 _ _ [] _ _ (Kd.C_nil _ _) (Nat.le_refl _) of2).mono ?_
  rintro e w2 ⟨rfl, hb2⟩
  replace HA := Aside0.mk (Kd.C_below HA.out hb2)
  replace HC := Aside0.mk (Kd.C_below HC.out hb2)
  replace hb1 := Aside0.mk (below_step hb1.out hb2)
  clear hb2
  go_wp2_with fail
  refine (adler_Of.calls 20 _ _ [87, 105, 107, 105] _ _ HA.out (by simp) of3).mono ?_
  rintro e w3 ⟨rfl, hb2⟩
  replace HC := Aside0.mk (Kd.C_below HC.out hb2)
  replace hb1 := Aside0.mk (below_step hb1.out hb2)
  clear hb2 HA
  go_wp2_with fail
  refine (adler_Of.calls 20 _ _ [112, 101, 100, 105, 97] _ _ HC.out (by simp) of4).mono ?_
  rintro e w4 ⟨rfl, hb2⟩
  replace hb1 := Aside0.mk (below_step hb1.out hb2)
  clear hb2 HC
  go_wp2_with fail
  refine (adler_Join.calls _ _ _ _ _ jo).mono ?_
  rintro e w5 ⟨rfl, hb2⟩
  replace hb1 := Aside0.mk (below_step hb1.out hb2)
  clear hb2
  go_wp2_with fail
  refine (adler_Is.calls _ _ _ is1).mono ?_
  rintro e w6 ⟨rfl, n6, rfl⟩
  go_wp2_with fail
  refine (adler_Is.calls _ _ _ is2).mono ?_
  rintro e w6 ⟨rfl, n7, rfl⟩
  go_wp2
  go_ret
  exact ⟨rfl, by repeat (first | exact hb1.out | apply pw_below_drewN)⟩
/-- The fixed calls are as they should be: no round is wanted to know it. -/
def halftonelaw04_fixed.f (_ : Nat) : Option Bool := some true
theorem halftonelaw04_fixed.mono : ∀ k, LeO (halftonelaw04_fixed.f k) (halftonelaw04_fixed.f (k + 1)) := fun _ => LeO.refl _
theorem halftonelaw04_fixed.calls (k : Nat) (r : Bool) (w : World) (h : halftonelaw04_fixed.f k = some r) :
    Calls Try.prog 8 #[] w fun e w' => e = .returned (.bool r) ∧ Below w.heap.size w w' := by
  obtain rfl := Option.some.inj h
  exact fixed_walk w
end Go.Proofs.Ytgfhggbnlnpebaa.Lib
