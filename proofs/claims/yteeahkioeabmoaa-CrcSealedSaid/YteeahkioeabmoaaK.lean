/- Small words on new blocks: a literal row of bytes, of slices; the conversion of a constant string's row. -/
import Derived.Test.YteeahkioeabmoaaF0
import Derived.Lib.SlBytesConst
namespace Go.Proofs.Yteeahkioeabmoaa.Lib
open Go.RowKit Go.Proofs.YteeahkioeabmoaaW.PrintWords Go.Proofs.YteeahkioeabmoaaW.PrintLast Go.Proofs.YteeahkioeabmoaaW.PrintMore
theorem new_cell (w : World) (cs : Array Value) (e : Nat) (m : Nat × Nat) (j : Nat) : (w.alloc (.cells cs e m)).cell? ⟨w.heap.size, j, none⟩ = cs[j]? := by
  show (match (w.heap.push (.cells cs e m))[w.heap.size]? with | some (.cells cs _ _) => cs[j]? | _ => none) = _
  simp
theorem C_new_at {w : World} {b : Nat} {xs : List Int} {e : Nat} {m : Nat × Nat} (hb : w.heap.size = b) (hn : xs.length ≤ 9223372036854775807) : Kd.C (Kd.int .u8) (w.alloc (.cells (nums .u8 xs).toArray e m)) (some ⟨b, 0, none⟩) xs.length xs := by
  subst hb
  refine ⟨rfl, hn, fun _ => ⟨_, rfl, fun j p hj => ⟨[.int .u8 p], rfl, rfl, fun i u hi => ?_⟩⟩⟩
  obtain rfl : i = 0 := by have := (List.getElem?_eq_some_iff.1 hi).1; simp at this; omega
  obtain rfl : u = .int .u8 p := by simpa using hi.symm
  rw [add_plain]
  show World.cell? _ ⟨w.heap.size, j * 1 + 0, none⟩ = _
  rw [Nat.mul_one, Nat.add_zero, new_cell]
  simp [nums, hj]
theorem conv_any (w : World) (b : Nat) (hb : w.heap.size = b) (C : Array Value) (n c : Nat) : (convert 23 23 (.slice (some ⟨b, 0, none⟩) n c)).run Try.prog (w.alloc (.cells C 5)) = .ok (.slice (some ⟨b, 0, none⟩) n c) (w.alloc (.cells C 5 (C.size, C.size + 1))) := by
  subst hb
  exact Lib.run_convert_bytes_const (P := Try.prog) w 23 5 C n c Try.underlying23 Try.underlying5
/-- a row of one slice -/
theorem C_one_at {w : World} {b : Nat} {A : Option Addr} {x : List Int} {c e : Nat} {m : Nat × Nat} (hb : w.heap.size = b) (hc : x.length ≤ c) (h : Kd.C (Kd.int .u8) w A x.length x) :
    Kd.C (Kd.slice 5 (Kd.int .u8)) (w.alloc (.cells #[.slice A x.length c] e m)) (some ⟨b, 0, none⟩) [x].length [x] := by
  subst hb
  refine ⟨rfl, by simp, fun _ => ⟨_, rfl, fun j p hj => ⟨[.slice A x.length c], rfl, ?_, fun i u hi => ?_⟩⟩⟩
  · obtain rfl : j = 0 := by have := (List.getElem?_eq_some_iff.1 hj).1; simp at this; omega
    obtain rfl : x = p := by simpa using hj
    exact ⟨A, c, rfl, hc, Kd.C_alloc h _⟩
  · obtain rfl : j = 0 := by have := (List.getElem?_eq_some_iff.1 hj).1; simp at this; omega
    obtain rfl : i = 0 := by have := (List.getElem?_eq_some_iff.1 hi).1; simp at this; omega
    obtain rfl : u = .slice A x.length c := by simpa using hi.symm
    rw [add_plain]
    show World.cell? _ ⟨w.heap.size, 0 * 1 + 0, none⟩ = _
    rw [Nat.zero_mul, new_cell]
    rfl
/-- a row of two -/
theorem C_two_at {w : World} {b : Nat} {A B : Option Addr} {x y : List Int} {c d e : Nat} {m : Nat × Nat} (hb : w.heap.size = b) (hc : x.length ≤ c) (hd : y.length ≤ d) (h : Kd.C (Kd.int .u8) w A x.length x) (h' : Kd.C (Kd.int .u8) w B y.length y) :
    Kd.C (Kd.slice 5 (Kd.int .u8)) (w.alloc (.cells #[.slice A x.length c, .slice B y.length d] e m)) (some ⟨b, 0, none⟩) [x, y].length [x, y] := by
  subst hb
  refine ⟨rfl, by simp, fun _ => ⟨_, rfl, fun j p hj => ?_⟩⟩
  have hj2 : j < 2 := (List.getElem?_eq_some_iff.1 hj).1
  match j, hj2 with
  | 0, _ =>
    obtain rfl : x = p := by simpa using hj
    refine ⟨[.slice A x.length c], rfl, ⟨A, c, rfl, hc, Kd.C_alloc h _⟩, fun i u hi => ?_⟩
    obtain rfl : i = 0 := by have := (List.getElem?_eq_some_iff.1 hi).1; simp at this; omega
    obtain rfl : u = .slice A x.length c := by simpa using hi.symm
    rw [add_plain]
    show World.cell? _ ⟨w.heap.size, 0 * 1 + 0, none⟩ = _
    rw [Nat.zero_mul, new_cell]
    rfl
  | 1, _ =>
    obtain rfl : y = p := by simpa using hj
    refine ⟨[.slice B y.length d], rfl, ⟨B, d, rfl, hd, Kd.C_alloc h' _⟩, fun i u hi => ?_⟩
    obtain rfl : i = 0 := by have := (List.getElem?_eq_some_iff.1 hi).1; simp at this; omega
    obtain rfl : u = .slice B y.length d := by simpa using hi.symm
    rw [add_plain]
    show World.cell? _ ⟨w.heap.size, 1 * 1 + 0, none⟩ = _
    rw [Nat.mul_one, Nat.add_zero, new_cell]
    rfl
end Go.Proofs.Yteeahkioeabmoaa.Lib
