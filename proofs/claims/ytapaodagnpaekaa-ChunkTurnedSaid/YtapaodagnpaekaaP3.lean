/- chunk: what the pieces come to, and where the reader stands, in plain Lean. -/
import Derived.Test.YtapaodagnpaekaaP2
import Derived.Test.YtapaodagnpaekaaVl
namespace Go.Proofs.Ytapaodagnpaekaa.Lib
open Go.RowKit Go.Proofs.YtapaodagnpaekaaW.PrintWords Go.Proofs.YtapaodagnpaekaaW.PrintLast Go.Proofs.YtapaodagnpaekaaW.PrintMore
set_option linter.unusedVariables false
set_option linter.unusedSimpArgs false
/-- the chunks with one that a piece begins -/
def gbase (l : List S46) (p : PS) : List S46 := if p.bg = true then l ++ [⟨p.kind, p.size, [], false⟩] else l
/-- a piece laid to the last chunk -/
def gath1 (l : List S46) (p : PS) : Option (List S46) :=
  if (gbase l p).length = 0 then none
  else if ((gbase l p).getD ((gbase l p).length - 1) z46).f3 = true ∨ ((gbase l p).getD ((gbase l p).length - 1) z46).f0 ≠ p.kind ∨ ((gbase l p).getD ((gbase l p).length - 1) z46).f1 ≠ p.size ∨ (p.bg = false ∧ p.en = false ∧ p.data.length = 0) then none
  else some ((gbase l p).set ((gbase l p).length - 1) ⟨((gbase l p).getD ((gbase l p).length - 1) z46).f0, ((gbase l p).getD ((gbase l p).length - 1) z46).f1, ((gbase l p).getD ((gbase l p).length - 1) z46).f2 ++ p.data, p.en⟩)
def gathM : List S46 → List PS → Option (List S46)
  | l, [] => some l
  | l, p :: ps => (gath1 l p).bind fun l' => gathM l' ps
theorem last_at (m : List S46) (x : S46) : (m ++ [x]).getD ((m ++ [x]).length - 1) z46 = x := by
  rw [List.length_append, List.length_singleton, Nat.add_sub_cancel, List.getD_eq_getElem?_getD]
  simp
theorem last_set (m : List S46) (x y : S46) : (m ++ [x]).set ((m ++ [x]).length - 1) y = m ++ [y] := by
  rw [List.length_append, List.length_singleton, Nat.add_sub_cancel]
  simp
theorem gath1_mk {l m : List S46} {p : PS} {x : S46} (h : gbase l p = m ++ [x]) (h1 : x.f3 = false) (h2 : x.f0 = p.kind) (h3 : x.f1 = p.size) (h4 : ¬ (p.bg = false ∧ p.en = false ∧ p.data.length = 0)) : gath1 l p = some (m ++ [⟨x.f0, x.f1, x.f2 ++ p.data, p.en⟩]) := by
  unfold gath1
  rw [h, last_at, last_set, if_neg (by simp), if_neg]
  rintro (e | e | e | e)
  · rw [h1] at e; cases e
  · exact e h2
  · exact e h3
  · exact h4 e
theorem gath1_inv {l l' : List S46} {p : PS} (h : gath1 l p = some l') : ∃ m x, gbase l p = m ++ [x] ∧ x.f3 = false ∧ x.f0 = p.kind ∧ x.f1 = p.size ∧ ¬ (p.bg = false ∧ p.en = false ∧ p.data.length = 0) ∧ l' = m ++ [⟨x.f0, x.f1, x.f2 ++ p.data, p.en⟩] := by
  unfold gath1 at h
  by_cases h0 : (gbase l p).length = 0
  · rw [if_pos h0] at h; cases h
  rw [if_neg h0] at h
  obtain ⟨m, x, hmx⟩ : ∃ m x, gbase l p = m ++ [x] := ⟨(gbase l p).dropLast, (gbase l p).getLast (fun e => h0 (by rw [e]; rfl)), (List.dropLast_concat_getLast _).symm⟩
  rw [hmx, last_at, last_set] at h
  by_cases hc : x.f3 = true ∨ x.f0 ≠ p.kind ∨ x.f1 ≠ p.size ∨ (p.bg = false ∧ p.en = false ∧ p.data.length = 0)
  · rw [if_pos hc] at h; cases h
  rw [if_neg hc] at h
  have h2 := Option.some.inj h
  refine ⟨m, x, hmx, ?_, ?_, ?_, fun e => hc (.inr (.inr (.inr e))), h2.symm⟩
  · cases hx : x.f3
    · rfl
    · exact absurd (.inl hx) hc
  · exact Classical.byContradiction fun e => hc (.inr (.inl e))
  · exact Classical.byContradiction fun e => hc (.inr (.inr (.inl e)))
theorem gathM_snoc (p : PS) : ∀ (l : List S46) (ps : List PS), gathM l (ps ++ [p]) = (gathM l ps).bind fun l' => gath1 l' p
  | l, [] => by
    show (gath1 l p).bind (fun l' => some l') = gath1 l p
    cases gath1 l p <;> rfl
  | l, q :: ps => by
    show (gath1 l q).bind (fun l' => gathM l' (ps ++ [p])) = ((gath1 l q).bind fun l' => gathM l' ps).bind fun l' => gath1 l' p
    cases gath1 l q with
    | none => rfl
    | some l' => exact gathM_snoc p l' ps
/-- what the pieces so far are to the chunks, and to the reader -/
structure GK (l0 l : List S46) (ps : List PS) (r : RS) : Prop where
  g : gathM l0 ps = some l
  lo : r.st < 3 → ∀ init p, ps = init ++ [p] → p.en = true
  hi : 3 ≤ r.st → ∀ init p, ps = init ++ [p] → p.en = false ∧ p.kind = r.kind ∧ p.size = r.size
theorem lastp {ps : List PS} : ps = [] ∨ ∃ init p, ps = init ++ [p] := by
  rcases List.eq_nil_or_concat ps with h | ⟨i, p, h⟩
  · exact .inl h
  · exact .inr ⟨i, p, by simpa using h⟩
theorem lastP_at (m : List PS) (x : PS) : (m ++ [x]).getD ((m ++ [x]).length - 1) zs = x := by
  rw [List.length_append, List.length_singleton, Nat.add_sub_cancel, List.getD_eq_getElem?_getD]
  simp
theorem setL_snoc (f : PS → PS) (m : List PS) (x : PS) : setL f (m ++ [x]) = m ++ [f x] := by
  unfold setL
  rw [lastP_at, List.length_append, List.length_singleton, Nat.add_sub_cancel]
  simp
theorem nowM_new {kind : ByteArray} {size : Int} {ps : List PS} (h : ∀ init p, ps = init ++ [p] → p.en = true) : nowM kind size ps = ps ++ [⟨kind, size, [], false, false⟩] := by
  unfold nowM
  rcases lastp (ps := ps) with rfl | ⟨init, p, rfl⟩
  · rw [if_pos (.inl rfl)]
  · rw [lastP_at, if_pos (.inr (h _ _ rfl))]
theorem nowM_old {kind : ByteArray} {size : Int} {init : List PS} {p : PS} (h : p.en = false) : nowM kind size (init ++ [p]) = init ++ [p] := by
  unfold nowM
  rw [lastP_at, if_neg]
  rintro (e | e)
  · simp at e
  · rw [h] at e; cases e
section
variable {l0 l : List S46} {ps : List PS} {r r' : RS} {dt : List Int}
/-- nothing told -/
theorem GK.keep (h : GK l0 l ps r) (h1 : (r.st < 3 ∧ r'.st < 3) ∨ (3 ≤ r.st ∧ 3 ≤ r'.st ∧ r'.kind = r.kind ∧ r'.size = r.size)) : GK l0 l ps r' := by
  refine ⟨h.g, fun hs i p e => ?_, fun hs i p e => ?_⟩
  · rcases h1 with h1 | h1
    · exact h.lo h1.1 i p e
    · omega
  · rcases h1 with h1 | h1
    · omega
    · rw [h1.2.2.1, h1.2.2.2]
      exact h.hi h1.1 i p e
/-- a chunk begins -/
theorem GK.begins (h : GK l0 l ps r) (hs : r.st < 3) {ks : ByteArray} {size : Int} (h3 : 3 ≤ r'.st) (hk : r'.kind = ks) (hz : r'.size = size) : GK l0 (l ++ [⟨ks, size, [], false⟩]) (setL (fun p => { p with bg := true }) (nowM ks size ps)) r' := by
  rw [nowM_new (h.lo hs), setL_snoc]
  refine ⟨?_, fun h4 => by omega, fun _ i p e => ?_⟩
  · rw [gathM_snoc, h.g, Option.bind_some]
    exact gath1_mk (p := ⟨ks, size, [], true, false⟩) (x := ⟨ks, size, [], false⟩) (m := l) rfl rfl rfl rfl (fun e => by cases e.1)
  · have e2 := (List.append_inj' e rfl).2
    injection e2 with e2
    subst e2
    exact ⟨rfl, hk.symm, hz.symm⟩
/-- bytes of a chunk -/
theorem GK.fills (h : GK l0 (l ++ [⟨r.kind, r.size, dt, false⟩]) ps r) (hs : 3 ≤ r.st) {d : List Int} (hd : d.length ≠ 0) (h3 : 3 ≤ r'.st) (hk : r'.kind = r.kind) (hz : r'.size = r.size) : GK l0 (l ++ [⟨r.kind, r.size, dt ++ d, false⟩]) (setL (fun p => { p with data := p.data ++ d }) (nowM r.kind r.size ps)) r' := by
  rcases lastp (ps := ps) with rfl | ⟨init, p, rfl⟩
  · rw [nowM_new (fun i p e => by simp at e), setL_snoc]
    refine ⟨?_, fun h4 => by omega, fun _ i p e => ?_⟩
    · have hg : l0 = l ++ [⟨r.kind, r.size, dt, false⟩] := Option.some.inj h.g
      show (gath1 l0 _).bind (fun l' => some l') = _
      rw [gath1_mk (p := ⟨r.kind, r.size, [] ++ d, false, false⟩) (x := ⟨r.kind, r.size, dt, false⟩) (m := l) (by unfold gbase; rw [if_neg (by simp)]; exact hg) rfl rfl rfl (fun e => hd (by simpa using e.2.2))]
      rfl
    · have e2 := (List.append_inj' e rfl).2
      injection e2 with e2
      subst e2
      exact ⟨rfl, hk.symm, hz.symm⟩
  · obtain ⟨he, hpk, hpz⟩ := h.hi hs init p rfl
    rw [nowM_old he, setL_snoc]
    have hg := h.g
    rw [gathM_snoc] at hg
    obtain ⟨l1, h1, h2⟩ := Option.bind_eq_some_iff.1 hg
    obtain ⟨m, x, hb, e1, e2, e3, e4, e5⟩ := gath1_inv h2
    obtain ⟨em, ex⟩ := List.append_inj' e5 rfl
    injection ex with ex
    injection ex with x0 x1 x2 x3
    refine ⟨?_, fun h4 => by omega, fun _ i q e => ?_⟩
    · rw [gathM_snoc, h1, Option.bind_some]
      rw [gath1_mk (p := { p with data := p.data ++ d }) (x := x) (m := m) hb e1 e2 e3 (fun e => hd (by have := e.2.2; simp only [List.length_append] at this; omega)), em, x0, x1]
      show some (m ++ [(⟨x.f0, x.f1, x.f2 ++ (p.data ++ d), p.en⟩ : S46)]) = _
      rw [← List.append_assoc, ← x2, he]
    · have e2 := (List.append_inj' e rfl).2
      injection e2 with e2
      subst e2
      exact ⟨he, by rw [hk]; exact hpk, by rw [hz]; exact hpz⟩
/-- a chunk ends -/
theorem GK.ends (h : GK l0 (l ++ [⟨r.kind, r.size, dt, false⟩]) ps r) (hs : 3 ≤ r.st) (h3 : r'.st < 3) : GK l0 (l ++ [⟨r.kind, r.size, dt, true⟩]) (setL (fun p => { p with en := true }) (nowM r.kind r.size ps)) r' := by
  rcases lastp (ps := ps) with rfl | ⟨init, p, rfl⟩
  · rw [nowM_new (fun i p e => by simp at e), setL_snoc]
    refine ⟨?_, fun _ i p e => ?_, fun h4 => by omega⟩
    · have hg : l0 = l ++ [⟨r.kind, r.size, dt, false⟩] := Option.some.inj h.g
      show (gath1 l0 _).bind (fun l' => some l') = _
      rw [gath1_mk (p := ⟨r.kind, r.size, [], false, true⟩) (x := ⟨r.kind, r.size, dt, false⟩) (m := l) (by unfold gbase; rw [if_neg (by simp)]; exact hg) rfl rfl rfl (fun e => by cases e.2.1)]
      show some (l ++ [(⟨r.kind, r.size, dt ++ [], true⟩ : S46)]) = _
      rw [List.append_nil]
    · have e2 := (List.append_inj' e rfl).2
      injection e2 with e2
      subst e2
      rfl
  · obtain ⟨he, hpk, hpz⟩ := h.hi hs init p rfl
    rw [nowM_old he, setL_snoc]
    have hg := h.g
    rw [gathM_snoc] at hg
    obtain ⟨l1, h1, h2⟩ := Option.bind_eq_some_iff.1 hg
    obtain ⟨m, x, hb, e1, e2, e3, e4, e5⟩ := gath1_inv h2
    obtain ⟨em, ex⟩ := List.append_inj' e5 rfl
    injection ex with ex
    injection ex with x0 x1 x2 x3
    refine ⟨?_, fun _ i q e => ?_, fun h4 => by omega⟩
    · rw [gathM_snoc, h1, Option.bind_some]
      rw [gath1_mk (p := { p with en := true }) (x := x) (m := m) hb e1 e2 e3 (fun e => by cases e.2.1), em, x0, x1]
      show some (m ++ [(⟨x.f0, x.f1, x.f2 ++ p.data, true⟩ : S46)]) = _
      rw [← x2]
    · have e2 := (List.append_inj' e rfl).2
      injection e2 with e2
      subst e2
      rfl
end
end Go.Proofs.Ytapaodagnpaekaa.Lib
