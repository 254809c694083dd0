/- A machine that bars less and knows more contracts comes to no less. -/
import Derived.Test.YtgagaobijjahhaaGreatDoorAmFun
namespace Go.Am
set_option linter.unusedVariables false
set_option linter.unusedSimpArgs false
def Cfg.more (C : Cfg) (q : Nat → Option (List V → List O → Option V)) (b : Nat → Bool) : Cfg := { C with prim := q, bar := b }
section
variable {C : Cfg} {q : Nat → Option (List V → List O → Option V)} {b : Nat → Bool}
theorem step_more (call : CallF) (p : List Nat) (ops : Array Oper) (o : Oper) (s : St) : stepA (C.more q b) call p ops o s = stepA C call p ops o s := rfl
theorem ops_more (call : CallF) (p : List Nat) (ops : Array Oper) : ∀ (l : List Oper) (s : St), opsA (C.more q b) call p ops l s = opsA C call p ops l s
  | [], s => rfl
  | o :: l, s => by
    simp only [opsA, step_more]
    cases stepA C call p ops o s with
    | none => rfl
    | some s' => exact ops_more call p ops l s'
theorem trace_more (call : CallF) (p : List Nat) (ops : Array Oper) : ∀ (l : List Oper) (s : St), traceA (C.more q b) call p ops l s = traceA C call p ops l s
  | [], s => rfl
  | o :: l, s => by
    simp only [traceA, step_more]
    cases stepA C call p ops o s with
    | none => rfl
    | some s' => simp only [Option.bind_some, trace_more call p ops l s']; rfl
theorem stepX_more (call : CallF) (p : List Nat) (ops : Array Oper) (r0 c0 k : Nat) (o : Oper) (s : St) : stepX (C.more q b) call p ops r0 c0 k o s = stepX C call p ops r0 c0 k o s := rfl
theorem traceX_more (call : CallF) (p : List Nat) (ops : Array Oper) (r0 c0 : Nat) : ∀ (l : List Oper) (k : Nat) (s : St), traceX (C.more q b) call p ops r0 c0 k l s = traceX C call p ops r0 c0 k l s
  | [], k, s => rfl
  | o :: l, k, s => by
    simp only [traceX, stepX_more]
    cases stepX C call p ops r0 c0 k o s with
    | none => rfl
    | some s' => simp only [Option.bind_some, traceX_more call p ops r0 c0 l]; rfl
theorem preObjs_more (p : List Nat) (c0 : Nat) : ∀ (l : List Oper) (k : Nat), preObjs (C.more q b) p c0 k l = preObjs C p c0 k l
  | [], k => rfl
  | o :: l, k => by
    simp only [preObjs, preObjs_more p c0 l]; rfl
theorem drawA_more (call : CallF) (g id : Nat) (p : List Nat) (ops : Array Oper) (s : St) : drawA (C.more q b) call g id p ops s = drawA C call g id p ops s := by
  have e1 : ∀ ps, opsD (C.more q b) call p ps ops s = opsD C call p ps ops s := fun ps => by
    cases ps with
    | nil => exact ops_more ..
    | cons x ps => simp only [opsD, trace_more]
  have e2 : ∀ ps ms, opsX (C.more q b) call p ps ms ops s = opsX C call p ps ms ops s := fun ps ms => by
    simp only [opsX, preObjs_more, traceX_more]
  show (match C.hook g id with | some h => h p s | none => drawN (C.more q b) call g id p ops s) = (match C.hook g id with | some h => h p s | none => drawN C call g id p ops s)
  have e3 : drawN (C.more q b) call g id p ops s = drawN C call g id p ops s := by
    show (match C.pre g id with | some ms => opsX (C.more q b) call p (C.cls g id) ms ops s | none => opsD (C.more q b) call p (C.cls g id) ops s) = _
    simp only [e1, e2]; rfl
  rw [e3]
theorem noR_more (g : Nat) : ∀ x : Code, noR (C.more q b) g x = noR C g x := by
  intro x
  induction x with
  | seq a c iha ihc => simp only [noR, iha, ihc]
  | cond k a c iha ihc => simp only [noR, iha, ihc]
  | block id a ih => simp only [noR, ih]
  | loop a ih => simp only [noR, ih]
  | _ => rfl
theorem code_more (call : CallF) (g : Nat) (p : List Nat) (n : Nat) : ∀ (x : Code), codeA (C.more q b) call g p n x = codeA C call g p n x := by
  intro x
  induction x with
  | region id ops draw => funext s; simp only [codeA, drawA_more, ops_more]
  | seq a c iha ihc => funext s; simp only [codeA, iha, ihc]
  | cond k a c iha ihc => funext s; simp only [codeA, iha, ihc]; rfl
  | block id a ih => funext s; simp only [codeA, ih]
  | loop a ih => funext s; simp only [codeA, ih]
  | scope a ih => funext s; simp only [codeA, ih]
  | rangeFunc f ps a c iha ihc => funext s; simp only [codeA, iha, ihc, noR_more]; rfl
  | _ => rfl
theorem res_more (s : St) : ∀ l : List ResultVar, resA (C.more q b) s l = resA C s l
  | [] => rfl
  | .tmp t :: l => by simp only [resA, res_more s l]
  | .cell a t :: l => by simp only [resA, res_more s l]; rfl
theorem done_more (f : Nat) (p : List Nat) (base : Nat) (args : List V) (rs : List ResultVar) : doneA (C.more q b) f p base args rs = doneA C f p base args rs := by
  funext x
  obtain ⟨e, s⟩ := x
  cases e with
  | exit id => rfl
  | normal => simp only [doneA, res_more]; rfl
  | ret => simp only [doneA, res_more]; rfl
theorem runA_more (h1 : ∀ f g, C.prim f = some g → q f = some g) (h2 : ∀ f, C.prim f = none → C.primM f = none → C.bar f = false → q f = none ∧ b f = false) (h3 : ∀ f g, C.prim f = none → C.primM f = some g → q f = none) : ∀ k, Le (runA C k) (runA (C.more q b) k) := by
  intro k
  induction k with
  | zero => intro f args σ p r h; cases h
  | succ k ih =>
    intro f args σ p r h
    simp only [runA] at h ⊢
    cases hp : C.prim f with
    | some g =>
      rw [hp] at h
      show (match q f with | some g => _ | none => _) = _
      rw [h1 f g hp]
      exact h
    | none =>
      rw [hp] at h
      cases hm : C.primM f with
      | some g =>
        rw [hm] at h
        show (match q f with | some g => _ | none => (match C.primM f with | some g => _ | none => _)) = _
        rw [h3 f g hp hm, hm]
        exact h
      | none =>
        rw [hm] at h
        simp only at h
        cases hb : C.bar f with
        | true => rw [hb] at h; simp at h
        | false =>
          rw [hb] at h
          obtain ⟨e1, e2⟩ := h2 f hp hm hb
          show (match q f with | some g => _ | none => (match C.primM f with | some g => _ | none => if b f = true then none else (match C.P.funcs[f]? with | some fn => _ | none => none))) = _
          rw [e1, hm, e2]
          simp only [Bool.false_eq_true, if_false] at h ⊢
          cases hf : C.P.funcs[f]? with
          | none => rw [hf] at h; cases h
          | some fn =>
            rw [hf] at h
            simp only at h ⊢
            cases hc : fn.body with
            | none => rw [hc] at h; cases h
            | some c =>
              rw [hc] at h
              simp only [code_more, done_more] at h ⊢
              rw [Option.bind_eq_some_iff] at h ⊢
              obtain ⟨x, hx, hd⟩ := h
              exact ⟨x, codeA_mono ih (Nat.le_refl _) c hx, hd⟩
theorem runF_more (h1 : ∀ f g, C.prim f = some g → q f = some g) (h2 : ∀ f, C.prim f = none → C.primM f = none → C.bar f = false → q f = none ∧ b f = false) (h3 : ∀ f g, C.prim f = none → C.primM f = some g → q f = none)
    {f : Nat} {args : List V} {σ : List O} {p : List Nat} {r : V × List O} (h : runF C f args σ p = some r) : runF (C.more q b) f args σ p = some r := by
  obtain ⟨k, hk⟩ := runF_some h
  exact runF_of (runA_more h1 h2 h3 k f args σ p r hk)
end
end Go.Am
