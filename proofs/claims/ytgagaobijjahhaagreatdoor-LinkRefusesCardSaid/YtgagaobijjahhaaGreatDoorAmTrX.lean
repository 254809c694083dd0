/- Walking a region that draws its order and has variables laid ahead. -/
import Derived.Test.YtgagaobijjahhaaGreatDoorJS
namespace Go.Am
set_option linter.unusedVariables false
set_option linter.unusedSimpArgs false
section
variable {C : Cfg} {g : Nat} {p : List Nat} {s : St} {ops : Array Oper} {Q : Ex → St → Prop} {K : St → Prop}
def TrXQ (C : Cfg) (p : List Nat) (ops : Array Oper) (r0 c0 k : Nat) (l : List Oper) (s : St) (tr : List (List O × List Nat)) (K : List (List O × List Nat) → St → Prop) (_ : Tag ops := .mk) (_ : Tag l := .mk) (_ : Tag K := .mk) : Prop :=
  OptQ (traceX C (runF C) p ops r0 c0 k l s) fun r => K (tr ++ r.1) r.2
def StepXQ (C : Cfg) (p : List Nat) (ops : Array Oper) (r0 c0 k : Nat) (o : Oper) (s : St) (K : St → Prop) (_ : Tag ops := .mk) (_ : Tag o := .mk) (_ : Tag K := .mk) : Prop := OptQ (stepX C (runF C) p ops r0 c0 k o s) K
theorem TrXQ_nil {r0 c0 k : Nat} {tr : List (List O × List Nat)} {K : List (List O × List Nat) → St → Prop} : TrXQ C p ops r0 c0 k [] s tr K = K (tr ++ [(s.σ, [])]) s := by simp [TrXQ, traceX, OptQ_some]
theorem TrXQ_cons {r0 c0 k : Nat} {tr : List (List O × List Nat)} {K : List (List O × List Nat) → St → Prop} (o : Oper) (l : List Oper) : TrXQ C p ops r0 c0 k (o :: l) s tr K =
    StepXQ C p ops r0 c0 k o s fun s' => TrXQ C p ops r0 c0 (if (preO o).isSome then k + 1 else k) l s' (tr ++ [(s.σ, accs (s.ev C) o.op)]) K := by
  have : ∀ {α : Type} (o : Option α) (K1 K2 : α → Prop), (∀ s', K1 s' = K2 s') → OptQ o K1 = OptQ o K2 := fun o K1 K2 h => by rw [funext h]
  simp only [TrXQ, traceX, OptQ_bind, StepXQ]
  refine this _ _ _ fun s' => ?_
  rw [OptQ_map]
  refine this _ _ _ fun r => ?_
  rw [List.append_assoc]; rfl
theorem StepXQ_alloc {r0 c0 k : Nat} {d : Option Nat} {e ty : TypeId} {pos : String} {af : Array Edge} : StepXQ C p ops r0 c0 k ⟨d, .alloc e, ty, pos, af, none⟩ s K = K (s.put d (.ptr (r0 + k) ((c0 + k) :: p) 0)) := by
  simp [StepXQ, stepX, preO, OptQ_some]
theorem StepXQ_step {r0 c0 k : Nat} {o : Oper} (h1 : preO o = none) (h2 : stillO C o = none) : StepXQ C p ops r0 c0 k o s K = StepQ C p ops o s K := by
  simp only [StepXQ, stepX, h1, h2, StepQ]
theorem Wp_drawX (id : Nat) (l : List Oper) {ps : List (Nat × Nat)} {ms : List Nat} {objs : List O} (hx : C.pre g id = some ms) (h : C.cls g id = ps) (ho : preObjs C p s.c 0 l = some objs) (hh : C.hook g id = none := by rfl) :
    Wq C g p (.region id l.toArray true) s Q = TrXQ C p l.toArray s.σ.length s.c 0 l ⟨s.t, s.nt, s.σ ++ objs, s.c + objs.length⟩ [] fun tr s' => (ps.all (okPair tr) && slotsOk s.σ.length tr 0 objs ms) = true ∧ Q .normal s' := by
  simp only [Wq, Wp, codeF, if_true, drawA, drawN, hh, hx, h, opsX, ho, Option.map_eq_some_iff, Option.bind_eq_some_iff, Prod.mk.injEq, TrXQ, OptQ, List.nil_append, Option.bind_some]
  refine propext ⟨fun ⟨e, s', ⟨a, ⟨tr, h1, h2⟩, h3, h4⟩, h5⟩ => ?_, fun ⟨tr, h1, h2, h3⟩ => ⟨.normal, tr.2, ⟨tr.2, ⟨tr, h1, by simp only [h2, if_true]⟩, rfl, rfl⟩, h3⟩⟩
  obtain ⟨tr, e'⟩ := tr
  simp only at h2
  split at h2
  · rename_i hh
    cases h2
    subst h4; subst h3
    exact ⟨_, h1, hh, h5⟩
  · cases h2
theorem Wp_drawY (id : Nat) (l : List Oper) {ps : List (Nat × Nat)} {ms : List Nat} (hx : C.pre g id = some ms) (h : C.cls g id = ps) (hh : C.hook g id = none := by rfl) :
    Wq C g p (.region id l.toArray true) s Q = OptQ (preObjs C p s.c 0 l) fun objs => TrXQ C p l.toArray s.σ.length s.c 0 l ⟨s.t, s.nt, s.σ ++ objs, s.c + objs.length⟩ [] fun tr s' => (ps.all (okPair tr) && slotsOk s.σ.length tr 0 objs ms) = true ∧ Q .normal s' := by
  cases ho : preObjs C p s.c 0 l with
  | none =>
    simp only [Wq, Wp, codeF, if_true, drawA, drawN, hh, hx, h, opsX, ho, Option.bind_none, Option.map_none, OptQ]
    refine propext ⟨?_, ?_⟩
    · rintro ⟨e, s', h, _⟩
      cases h
    · rintro ⟨_, h, _⟩
      cases h
  | some objs => rw [Wp_drawX id l hx h ho hh, OptQ_some]
end
end Go.Am
