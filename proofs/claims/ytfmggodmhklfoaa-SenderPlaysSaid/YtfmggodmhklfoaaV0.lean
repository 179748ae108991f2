/- A region that draws its order inside a round: what is shown of it outside holds inside, where its operations make no call. -/
import Derived.Test.YtfmggodmhklfoaaF0
import Derived.OrdersIn
import Derived.RangeFuncIn
import Derived.StillTailTactics
namespace Go.Proofs.Ytfmggodmhklfoaa.Lib
open Go.RowKit Go.Proofs.YtfmggodmhklfoaaW.PrintWords Go.Proofs.YtfmggodmhklfoaaW.PrintLast Go.Proofs.YtfmggodmhklfoaaW.PrintMore
set_option linter.unusedVariables false
set_option linter.unusedSimpArgs false
/-- an operation that makes no call -/
def calmOp (o : Oper) : Bool := match o.op with
  | .move _ | .assign _ | .pick .. | .alloc _ | .box .. | .build .. | .buildSlice .. | .load .. | .store .. | .nilCheck _ | .binOp .. | .unOp .. | .convert .. | .slice .. | .fieldAddr .. | .field .. | .indexAddr .. | .index .. | .extract .. | .makeSlice .. => true
  | .call c => match c.callee with
    | .builtin .len | .builtin .cap | .builtin .append | .builtin .min | .builtin .max => true
    | _ => false
  | _ => false
/-- what such an operation comes to -/
def CalmR (R : Result Next) : Prop := (∃ v w, R = .ok (.value v) w) ∨ (∃ w, R = .ok .skip w) ∨ ∃ h w, R = .halt h w
theorem calm_v {P : Program} {w : World} (s : Sem Value) : CalmR ((do pure (Next.value (← s)) : Sem Next).run P w) := by
  rw [Sem.run_bind]
  cases s.run P w with
  | ok a w' => exact .inl ⟨a, w', rfl⟩
  | halt h w' => exact .inr (.inr ⟨h, w', rfl⟩)
theorem calm_u {P : Program} {w : World} (s : Sem Unit) : CalmR ((do s; pure Next.skip : Sem Next).run P w) := by
  rw [Sem.run_bind]
  cases s.run P w with
  | ok a w' => exact .inr (.inl ⟨w', rfl⟩)
  | halt h w' => exact .inr (.inr ⟨h, w', rfl⟩)
theorem calm_pure {P : Program} {w : World} (v : Value) : CalmR ((pure (Next.value v) : Sem Next).run P w) := .inl ⟨v, w, rfl⟩
theorem calm_halt {P : Program} {w : World} (h : Halt) : CalmR ((Sem.halt h : Sem Next).run P w) := .inr (.inr ⟨h, w, rfl⟩)
theorem calm_bind {α : Type} {P : Program} {w : World} (s : Sem α) (f : α → Sem Next) (hf : ∀ a w', CalmR ((f a).run P w')) : CalmR ((s >>= f).run P w) := by
  rw [Sem.run_bind]
  cases s.run P w with
  | ok a w' => exact hf a w'
  | halt h w' => exact .inr (.inr ⟨h, w', rfl⟩)
theorem calm_rp {P : Program} {w : World} (e : RuntimeError) : CalmR ((runtimePanic e : Sem Next).run P w) := by
  unfold runtimePanic
  refine calm_bind _ _ (fun _ _ => ?_)
  dsimp only
  split <;> first
    | exact .inr (.inr ⟨_, _, rfl⟩)
    | exact calm_bind _ _ (fun _ _ => calm_bind _ _ (fun _ _ => .inr (.inr ⟨_, _, rfl⟩)))
theorem calm_op {P : Program} {w : World} (o : Oper) (ρ : Operand → Value) (h : calmOp o = true) : CalmR ((execOp ρ o).run P w) ∧ o.about P w ρ = none ∧ ∀ c, o.op ≠ .defer c := by
  obtain ⟨dst, op, type, pos, after, guard⟩ := o
  unfold calmOp at h
  unfold execOp Oper.about
  dsimp only at h ⊢
  cases op <;> dsimp only at h ⊢ <;> try (exact absurd h (by decide))
  all_goals (first
    | exact ⟨calm_v _, rfl, fun _ h => by cases h⟩
    | exact ⟨calm_u _, rfl, fun _ h => by cases h⟩
    | exact ⟨calm_pure _, rfl, fun _ h => by cases h⟩
    | exact ⟨calm_bind _ _ (fun _ _ => calm_pure _), rfl, fun _ h => by cases h⟩
    | skip)
  case nilCheck x =>
    refine ⟨?_, rfl, fun _ h => by cases h⟩
    split
    · exact calm_rp _
    · exact calm_rp _
    · exact calm_rp _
    · split
      · exact calm_rp _
      · refine calm_bind _ _ (fun _ _ => calm_bind _ _ (fun _ _ => ?_))
        split
        · exact calm_bind _ _ (fun _ _ => calm_pure _)
        · exact calm_pure _
      · exact calm_pure _
    · exact calm_pure _
  case call c =>
    obtain ⟨callee, args, ats⟩ := c
    dsimp only at h
    have key : ∀ b : Builtin, (b = .len ∨ b = .cap ∨ b = .append ∨ b = .min ∨ b = .max) → callee = .builtin b → CalmR ((do let d ← resolve ρ ⟨callee, args, ats⟩ type; invoke d.target d.args : Sem Next).run P w) ∧ (match (resolve ρ ⟨callee, args, ats⟩ type).run P w with | Result.ok d w' => Target.leads P w' d.target d.args | Result.halt h w => none) = none ∧ ∀ c, Op.call ⟨callee, args, ats⟩ ≠ Op.defer c := by
      rintro b hb rfl
      refine ⟨?_, ?_, fun _ h => by cases h⟩
      · simp only [resolve, pure_bind, invoke]
        rcases hb with rfl | rfl | rfl | rfl | rfl <;> exact calm_v _
      · simp [resolve, Target.leads]
    split at h
    · exact key _ (.inl rfl) rfl
    · exact key _ (.inr (.inl rfl)) rfl
    · exact key _ (.inr (.inr (.inl rfl))) rfl
    · exact key _ (.inr (.inr (.inr (.inl rfl)))) rfl
    · exact key _ (.inr (.inr (.inr (.inr rfl)))) rfl
    · cases h
section
variable {P : Program} {F : Fence} {n : Nat} {ops : Array Oper} {Q : Exit → Act → World → Prop} {md : Region.Mode}
/-- every operation of a region makes no call -/
def calmAll (ops : Array Oper) : Bool := ops.all calmOp
theorem calm_at {i : Nat} {o : Oper} (h : calmAll ops = true) (ho : ops[i]? = some o) : calmOp o = true := by
  obtain ⟨hi, rfl⟩ := Array.getElem?_eq_some_iff.1 ho
  exact Array.all_eq_true.1 h i hi
theorem wpOp_in {i : Nat} {K K' : Act → World → Prop} {a : Act} {w : World} (hc : calmAll ops = true) (hQ : ¬ LetsOut Q) (hK : ∀ a w, K a w → K' a w) (h : wpOp P ops Q i K a w) : wpOpIn F n P ops Q i K' a w := by
  unfold wpOp at h
  unfold wpOpIn
  cases ho : ops[i]? with
  | none => rw [ho] at h; exact hK _ _ h
  | some o =>
    rw [ho] at h
    obtain ⟨h1, h2, h3⟩ := calm_op (P := P) (w := w) o a.eval (calm_at hc ho)
    have hab : ∀ f, o.about P w a.eval = some f → F.fn f := fun f hf => by rw [h2] at hf; cases hf
    dsimp only at h ⊢
    split at h
    · rename_i hw
      rw [if_pos hw]
      rcases h with h | ⟨_, h⟩
      · refine ⟨hab, ?_⟩
        rw [Oper.semAt_eq _ _ _ h3]
        unfold Oper.wp at h
        rcases h1 with ⟨v, w', e⟩ | ⟨w', e⟩ | ⟨x, w', e⟩
        · rw [e] at h ⊢; exact hK _ _ h
        · rw [e] at h ⊢; exact hK _ _ h
        · rw [e] at h ⊢
          cases x <;> first | exact h | exact h.elim
      · exact absurd h hQ
    · rename_i hw
      rw [if_neg hw]
      exact ⟨hab, hK _ _ h⟩
theorem wpAny_in (hc : calmAll ops = true) (hQ : ¬ LetsOut Q) : ∀ (fuel : Nat) (listed : Array Bool) (a : Act) (w : World), wpAny P md ops Q fuel listed a w → wpAnyIn F n P md ops Q fuel listed a w
  | 0, _, _, _, h => h
  | fuel + 1, _, _, _, h => ⟨h.1, fun i hi => wpOp_in hc hQ (fun a w => wpAny_in hc hQ fuel _ a w) (h.2 i hi)⟩
/-- a region inside a round: the steps of PrintLast's 'start_' -/
theorem startIn_ {S : World → Prop} {ds : List Nat} {id m : Nat} {a : Act} {w : World} (l : Array Bool) (hm : P.follows .mixedOrders = true) (hc : calmAll ops = true) (hQ : ¬ LetsOut Q) (hn : ops.size = m) (hl : Array.replicate m false = l) (hS : S w.drew)
    (h : S w.drew → wpAnyLast P .any ops Q S ds m l a w.drew) : (Code.region id ops true).wpIn F n P Q a w := by
  refine wpIn_region_any hm (wpAny_in hc hQ _ _ _ _ ?_)
  subst hn hl
  exact wpAny_of_last _ _ _ _ (h hS)
/-- the same for reads ahead of a tail in one order: the steps of 'go_still_tail' -/
theorem wpIn_tail_ {id : Nat} {a : Act} {w : World} {l : List Oper} (k : Nat) (hm : P.follows .mixedOrders = true) (hc : calmAll l.toArray = true) (hQ : ¬ LetsOut Q) (hB : Region.lexTailB .any l.toArray k = true)
    (h : wpStill P l.toArray w.drew (fun a' => wpList P l.toArray Q (l.drop k) a' w.drew) (l.take k) a) : (Code.region id l.toArray true).wpIn F n P Q a w := by
  refine wpIn_region_any hm (wpAny_in hc hQ _ _ _ _ ?_)
  simp only [Region.lexTailB, Bool.and_eq_true, decide_eq_true_eq] at hB
  obtain ⟨⟨⟨⟨hsel, hk⟩, hs⟩, hch⟩, hlex⟩ := hB
  have hk' : k < l.length := by simpa using hk
  have htl : (l.take k).length = k := by simp; omega
  have inv0 : HeadInv .any l.toArray k (Array.replicate l.toArray.size false) :=
    ⟨by simp, fun j oj _ hl => (by rw [getD_replicate_false] at hl; cases hl), fun t _ ht => getD_in (by simpa using ht) (getD_replicate_false _ _)⟩
  have H := wpAnyL_lex (md := .any) (g := l.toArray.size - k) hsel hs hch hk (l.take k) 0 _ a (fun j hj => by
    have hj' : j < k := by rw [htl] at hj; exact hj
    simp [hj']) (by simpa using htl) inv0 (by rw [htl]; exact hlex) h
  have hdl : (l.drop k).length = l.toArray.size - k := by simp
  have R := wpAny_of_head (Q' := Q) (g := l.toArray.size - k) (fun listed a' hL => by
    have := wpAny_of_seq (md := .any) (Q' := Q) (l.drop k) k listed a' w.drew (fun j => by simp [List.getElem?_drop]) (by rw [hdl]; exact hL.1) hL.2
    rwa [hdl] at this) _ _ _ H
  rw [htl, show k + (l.toArray.size - k) = l.toArray.size by omega] at R
  exact R
end
end Go.Proofs.Ytfmggodmhklfoaa.Lib
