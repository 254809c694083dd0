/- The abstract machine without bounds on its steps: functions as equations, rules for proofs. -/
import Derived.Test.YtgagaobijjahhaaGreatDoorAmDraw3
namespace Go.Am
open Go.RowKit
set_option linter.unusedVariables false
set_option linter.unusedSimpArgs false

noncomputable def lim {α : Type} (f : Nat → Option α) : Option α := open Classical in if h : ∃ r k, f k = some r then some h.choose else none
theorem lim_some {α : Type} {f : Nat → Option α} {r : α} (h : lim f = some r) : ∃ k, f k = some r := by
  unfold lim at h
  split at h
  · rename_i hx
    simp only [Option.some.injEq] at h
    rw [← h]
    exact hx.choose_spec
  · cases h
theorem lim_of {α : Type} {f : Nat → Option α} (hm : ∀ k k' r, k ≤ k' → f k = some r → f k' = some r) {k : Nat} {r : α} (h : f k = some r) : lim f = some r := by
  have hx : ∃ r k, f k = some r := ⟨r, k, h⟩
  unfold lim
  rw [dif_pos hx]
  obtain ⟨k', hk'⟩ := hx.choose_spec
  have h1 := hm k (max k k') r (Nat.le_max_left _ _) h
  have h2 := hm k' (max k k') _ (Nat.le_max_right _ _) hk'
  rw [h1] at h2
  exact h2.symm

section
variable {C : Cfg} {g : Nat} {p : List Nat}
def Le (c c' : CallF) : Prop := ∀ f args σ p r, c f args σ p = some r → c' f args σ p = some r
theorem callA_mono {c c' : CallF} (h : Le c c') {f : V} {args : List V} {σ : List O} {n : Nat} {r : V × List O} (hr : callA c p f args σ n = some r) : callA c' p f args σ n = some r := by
  unfold callA at *
  split at hr
  · exact h _ _ _ _ _ hr
  · cases hr
theorem stepA_mono {c c' : CallF} (h : Le c c') {ops : Array Oper} {o : Oper} {s r : St} (hr : stepA C c p ops o s = some r) : stepA C c' p ops o s = some r := by
  unfold stepA at *
  cases hg : guardA ops s o.guard with
  | none => rw [hg] at hr; cases hr
  | some b =>
    rw [hg] at hr
    simp only [Option.bind_some] at hr ⊢
    split
    · rename_i hb
      rw [if_pos hb] at hr
      split at hr
      · rename_i f args ts hop
        simp only [Option.map_eq_some_iff] at hr ⊢
        obtain ⟨a, ha, hr⟩ := hr
        exact ⟨a, callA_mono h ha, hr⟩
      · exact hr
    · rename_i hb
      rw [if_neg hb] at hr
      exact hr
theorem opsA_mono {c c' : CallF} (h : Le c c') {ops : Array Oper} : ∀ {l : List Oper} {s r : St}, opsA C c p ops l s = some r → opsA C c' p ops l s = some r := by
  intro l
  induction l with
  | nil => intro s r hr; exact hr
  | cons o l ih =>
    intro s r hr
    simp only [opsA, Option.bind_eq_some_iff] at hr ⊢
    obtain ⟨s1, h1, h2⟩ := hr
    exact ⟨s1, stepA_mono h h1, ih h2⟩
theorem traceA_mono {c c' : CallF} (h : Le c c') {ops : Array Oper} : ∀ {l : List Oper} {s : St} {r}, traceA C c p ops l s = some r → traceA C c' p ops l s = some r := by
  intro l
  induction l with
  | nil => intro s r hr; exact hr
  | cons o l ih =>
    intro s r hr
    simp only [traceA, Option.bind_eq_some_iff, Option.map_eq_some_iff] at hr ⊢
    obtain ⟨s1, h1, a, h2, h3⟩ := hr
    exact ⟨s1, stepA_mono h h1, a, ih h2, h3⟩
theorem stepX_mono {c c' : CallF} (h : Le c c') {ops : Array Oper} {r0 c0 q : Nat} {o : Oper} {s r : St} (hr : stepX C c p ops r0 c0 q o s = some r) : stepX C c' p ops r0 c0 q o s = some r := by
  unfold stepX at *
  split at hr
  · exact hr
  · split at hr
    · exact hr
    · exact stepA_mono h hr
theorem traceX_mono {c c' : CallF} (h : Le c c') {ops : Array Oper} {r0 c0 : Nat} : ∀ {l : List Oper} {q : Nat} {s : St} {r}, traceX C c p ops r0 c0 q l s = some r → traceX C c' p ops r0 c0 q l s = some r := by
  intro l
  induction l with
  | nil => intro q s r hr; exact hr
  | cons o l ih =>
    intro q s r hr
    simp only [traceX, Option.bind_eq_some_iff, Option.map_eq_some_iff] at hr ⊢
    obtain ⟨s1, h1, a, h2, h3⟩ := hr
    exact ⟨s1, stepX_mono h h1, a, ih h2, h3⟩
theorem opsD_mono {c c' : CallF} (h : Le c c') {ops : Array Oper} {ps : List (Nat × Nat)} {s r : St} (hr : opsD C c p ps ops s = some r) : opsD C c' p ps ops s = some r := by
  unfold opsD at *
  split at hr
  · exact opsA_mono h hr
  · simp only [Option.bind_eq_some_iff] at hr ⊢
    obtain ⟨a, h1, h2⟩ := hr
    exact ⟨a, traceA_mono h h1, h2⟩
theorem loopA_mono {f f' : St → Option (Ex × St)} (h : ∀ s r, f s = some r → f' s = some r) : ∀ {n n' : Nat} {s : St} {r}, n ≤ n' → loopA f n s = some r → loopA f' n' s = some r := by
  intro n
  induction n with
  | zero => intro n' s r _ hr; simp [loopA] at hr
  | succ n ih =>
    intro n' s r hn hr
    obtain ⟨m, rfl⟩ : ∃ m, n' = m + 1 := ⟨n' - 1, by omega⟩
    simp only [loopA, Option.bind_eq_some_iff] at hr ⊢
    obtain ⟨⟨e, s1⟩, h1, h2⟩ := hr
    refine ⟨(e, s1), h _ _ h1, ?_⟩
    cases e with
    | normal => exact ih (by omega) h2
    | exit id => exact h2
    | ret => exact h2
theorem rangeA_mono {fa fb fa' fb' : St → Option (Ex × St)} (ha : ∀ s r, fa s = some r → fa' s = some r) (hb : ∀ s r, fb s = some r → fb' s = some r) {ps rows : List Nat} {σ0 : List O} {s0 : St} :
    ∀ {l : List (List V)} {s : St} {r}, rangeA fa fb ps rows σ0 s0 l s = some r → rangeA fa' fb' ps rows σ0 s0 l s = some r
  | [], s, r, h => h
  | vs :: rest, s, r, h => by
    simp only [rangeA] at h ⊢
    split at h
    · rename_i hl
      rw [if_pos hl]
      simp only [Option.bind_eq_some_iff] at h ⊢
      obtain ⟨⟨e, s1⟩, h1, h2⟩ := h
      refine ⟨(e, s1), ha _ _ h1, ?_⟩
      cases e with
      | exit id => exact h2
      | ret => exact h2
      | normal =>
        simp only [Option.bind_eq_some_iff] at h2 ⊢
        obtain ⟨⟨e, s2⟩, h3, h4⟩ := h2
        refine ⟨(e, s2), hb _ _ h3, ?_⟩
        cases e with
        | exit id => exact h4
        | ret => exact h4
        | normal =>
          simp only at h4 ⊢
          split at h4
          · rename_i hr; rw [if_pos hr]; exact rangeA_mono ha hb h4
          · cases h4
    · cases h
theorem drawN_mono {c c' : CallF} (h : Le c c') {g id : Nat} {ops : Array Oper} {s r : St} (hr : drawN C c g id p ops s = some r) : drawN C c' g id p ops s = some r := by
  unfold drawN at *
  cases hq : C.pre g id with
  | none => rw [hq] at hr; exact opsD_mono h hr
  | some ms =>
    rw [hq] at hr
    simp only [opsX, Option.bind_eq_some_iff] at hr ⊢
    obtain ⟨objs, h0, x, h1, h2⟩ := hr
    exact ⟨objs, h0, x, traceX_mono h h1, h2⟩
theorem codeA_mono {c c' : CallF} (h : Le c c') {n n' : Nat} (hn : n ≤ n') : ∀ (x : Code) {s : St} {r}, codeA C c g p n x s = some r → codeA C c' g p n' x s = some r := by
  intro x
  induction x with
  | skip => intro s r hr; exact hr
  | label => intro s r hr; exact hr
  | region id ops draw =>
    intro s r hr
    simp only [codeA, Option.map_eq_some_iff] at hr ⊢
    obtain ⟨a, h1, h2⟩ := hr
    refine ⟨a, ?_, h2⟩
    cases draw
    · exact opsA_mono h h1
    · simp only [if_true, drawA] at h1 ⊢
      cases hq : C.hook g id with
      | some q => rw [hq] at h1; exact h1
      | none => rw [hq] at h1; exact drawN_mono h h1
  | seq a b iha ihb =>
    intro s r hr
    simp only [codeA, Option.bind_eq_some_iff] at hr ⊢
    obtain ⟨⟨e, s1⟩, h1, h2⟩ := hr
    refine ⟨(e, s1), iha h1, ?_⟩
    cases e with
    | normal => exact ihb h2
    | exit id => exact h2
    | ret => exact h2
  | cond k a b iha ihb =>
    intro s r hr
    simp only [codeA] at hr ⊢
    split at hr
    · rename_i x hx
      cases x
      · simp only [Bool.false_eq_true, if_false] at hr ⊢; exact ihb hr
      · simp only [if_true] at hr ⊢; exact iha hr
    · cases hr
  | block id a ih =>
    intro s r hr
    simp only [codeA, Option.map_eq_some_iff] at hr ⊢
    obtain ⟨a, h1, h2⟩ := hr
    exact ⟨a, ih h1, h2⟩
  | loop a ih => intro s r hr; exact loopA_mono (fun s r => ih) hn hr
  | scope a ih => intro s r hr; exact ih hr
  | exit => intro s r hr; exact hr
  | ret => intro s r hr; exact hr
  | rangeFunc f ps a b iha ihb =>
    intro s r hr
    simp only [codeA] at hr ⊢
    split at hr
    · rename_i hq
      rw [if_pos hq]
      split at hr
      · rename_i gf cap hf
        split at hr
        · rename_i it hit
          simp only [hit, Option.bind_eq_some_iff] at hr ⊢
          obtain ⟨x, h1, h2⟩ := hr
          exact ⟨x, h1, rangeA_mono (fun s r h => iha h) (fun s r h => ihb h) h2⟩
        · cases hr
      · cases hr
    · cases hr
  | goto => intro s r hr; simp [codeA] at hr
  | refuse => intro s r hr; simp [codeA] at hr
theorem runA_mono : ∀ k, Le (runA C k) (runA C (k + 1)) := by
  intro k
  induction k with
  | zero => intro f args σ p r h; simp [runA] at h
  | succ k ih =>
    intro f args σ p r h
    rw [runA] at h ⊢
    cases hp : C.prim f with
    | some q => simp only [hp] at h ⊢; exact h
    | none =>
      simp only [hp] at h ⊢
      cases hpm : C.primM f with
      | some q => simp only [hpm] at h ⊢; exact h
      | none =>
      simp only [hpm] at h ⊢
      split
      · rename_i hb; rw [if_pos hb] at h; cases h
      · rename_i hb
        rw [if_neg hb] at h
        cases hf : C.P.funcs[f]? with
        | none => rw [hf] at h; cases h
        | some fn =>
          simp only [hf] at h ⊢
          cases hc : fn.body with
          | none => rw [hc] at h; cases h
          | some c =>
            simp only [hc, Option.bind_eq_some_iff] at h ⊢
            obtain ⟨a, h1, h2⟩ := h
            exact ⟨a, codeA_mono ih (Nat.le_succ _) c h1, h2⟩
theorem runA_le {k k' : Nat} (h : k ≤ k') : Le (runA C k) (runA C k') := by
  obtain ⟨d, rfl⟩ := Nat.exists_eq_add_of_le h
  induction d with
  | zero => intro f args σ p r h; exact h
  | succ d ih => intro f args σ p r h; exact runA_mono _ _ _ _ _ _ (ih (by omega) _ _ _ _ _ h)

noncomputable def runF (C : Cfg) : CallF := fun f args σ p => lim fun k => runA C k f args σ p
theorem runF_some {f : Nat} {args : List V} {σ : List O} {p : List Nat} {r : V × List O} (h : runF C f args σ p = some r) : ∃ k, runA C k f args σ p = some r := lim_some h
theorem runF_of {f : Nat} {args : List V} {σ : List O} {p : List Nat} {r : V × List O} {k : Nat} (h : runA C k f args σ p = some r) : runF C f args σ p = some r :=
  lim_of (fun k k' r hk h => runA_le hk _ _ _ _ _ h) h
noncomputable def loopF (f : St → Option (Ex × St)) (s : St) : Option (Ex × St) := lim fun n => loopA f n s
noncomputable def codeF (C : Cfg) (g : Nat) (p : List Nat) : Code → St → Option (Ex × St)
  | .skip, s | .label _, s => some (.normal, s)
  | .region id ops draw, s => (if draw then drawA C (runF C) g id p ops s else opsA C (runF C) p ops ops.toList s).map fun s => (.normal, s)
  | .seq a b, s => (codeF C g p a s).bind fun (e, s') => match e with | .normal => codeF C g p b s' | e => some (e, s')
  | .cond k a b, s => match s.ev C k with | .b x => if x then codeF C g p a s else codeF C g p b s | _ => none
  | .block id a, s => (codeF C g p a s).map fun (e, s') => (if e = .exit id then .normal else e, s')
  | .loop a, s => loopF (codeF C g p a) s
  | .scope a, s => codeF C g p a s
  | .exit id, s => some (.exit id, s)
  | .ret, s => some (.ret, s)
  | _, _ => none

theorem stepF_some {ops : Array Oper} {o : Oper} {s r : St} (h : stepA C (runF C) p ops o s = some r) : ∃ k, stepA C (runA C k) p ops o s = some r := by
  unfold stepA at *
  cases hg : guardA ops s o.guard with
  | none => rw [hg] at h; cases h
  | some b =>
    rw [hg] at h
    simp only [Option.bind_some] at h ⊢
    cases b with
    | false => exact ⟨0, h⟩
    | true =>
      simp only [if_true] at h ⊢
      split at h
      · rename_i f args ts hop
        simp only [Option.map_eq_some_iff] at h
        obtain ⟨a, ha, hr⟩ := h
        unfold callA at ha
        split at ha
        · rename_i f' fi ca hf
          obtain ⟨k, hk⟩ := runF_some ha
          refine ⟨k, ?_⟩
          simp only [callA, hf, hk, Option.map_some, hr]
        · cases ha
      · rename_i hn
        exact ⟨0, h⟩
theorem opsF_some {ops : Array Oper} : ∀ {l : List Oper} {s r : St}, opsA C (runF C) p ops l s = some r → ∃ k, opsA C (runA C k) p ops l s = some r := by
  intro l
  induction l with
  | nil => intro s r h; exact ⟨0, h⟩
  | cons o l ih =>
    intro s r h
    simp only [opsA, Option.bind_eq_some_iff] at h
    obtain ⟨s1, h1, h2⟩ := h
    obtain ⟨k1, h1⟩ := stepF_some h1
    obtain ⟨k2, h2⟩ := ih h2
    refine ⟨max k1 k2, ?_⟩
    simp only [opsA, Option.bind_eq_some_iff]
    exact ⟨s1, stepA_mono (runA_le (Nat.le_max_left _ _)) h1, opsA_mono (runA_le (Nat.le_max_right _ _)) h2⟩
theorem traceF_some {ops : Array Oper} : ∀ {l : List Oper} {s : St} {r}, traceA C (runF C) p ops l s = some r → ∃ k, traceA C (runA C k) p ops l s = some r := by
  intro l
  induction l with
  | nil => intro s r h; exact ⟨0, h⟩
  | cons o l ih =>
    intro s r h
    simp only [traceA, Option.bind_eq_some_iff, Option.map_eq_some_iff] at h
    obtain ⟨s1, h1, a, h2, h3⟩ := h
    obtain ⟨k1, h1⟩ := stepF_some h1
    obtain ⟨k2, h2⟩ := ih h2
    refine ⟨max k1 k2, ?_⟩
    simp only [traceA, Option.bind_eq_some_iff, Option.map_eq_some_iff]
    exact ⟨s1, stepA_mono (runA_le (Nat.le_max_left _ _)) h1, a, traceA_mono (runA_le (Nat.le_max_right _ _)) h2, h3⟩
theorem stepXF_some {ops : Array Oper} {r0 c0 q : Nat} {o : Oper} {s r : St} (h : stepX C (runF C) p ops r0 c0 q o s = some r) : ∃ k, stepX C (runA C k) p ops r0 c0 q o s = some r := by
  unfold stepX at *
  split at h
  · exact ⟨0, h⟩
  · split at h
    · exact ⟨0, h⟩
    · exact stepF_some h
theorem traceXF_some {ops : Array Oper} {r0 c0 : Nat} : ∀ {l : List Oper} {q : Nat} {s : St} {r}, traceX C (runF C) p ops r0 c0 q l s = some r → ∃ k, traceX C (runA C k) p ops r0 c0 q l s = some r := by
  intro l
  induction l with
  | nil => intro q s r h; exact ⟨0, h⟩
  | cons o l ih =>
    intro q s r h
    simp only [traceX, Option.bind_eq_some_iff, Option.map_eq_some_iff] at h
    obtain ⟨s1, h1, a, h2, h3⟩ := h
    obtain ⟨k1, h1⟩ := stepXF_some h1
    obtain ⟨k2, h2⟩ := ih h2
    refine ⟨max k1 k2, ?_⟩
    simp only [traceX, Option.bind_eq_some_iff, Option.map_eq_some_iff]
    exact ⟨s1, stepX_mono (runA_le (Nat.le_max_left _ _)) h1, a, traceX_mono (runA_le (Nat.le_max_right _ _)) h2, h3⟩
theorem opsXF_some {ops : Array Oper} {ps : List (Nat × Nat)} {ms : List Nat} {s r : St} (h : opsX C (runF C) p ps ms ops s = some r) : ∃ k, opsX C (runA C k) p ps ms ops s = some r := by
  simp only [opsX, Option.bind_eq_some_iff] at h
  obtain ⟨objs, h0, x, h1, h2⟩ := h
  obtain ⟨k, h1⟩ := traceXF_some h1
  exact ⟨k, by simp only [opsX, Option.bind_eq_some_iff]; exact ⟨objs, h0, x, h1, h2⟩⟩
theorem opsDF_some {ops : Array Oper} {ps : List (Nat × Nat)} {s r : St} (h : opsD C (runF C) p ps ops s = some r) : ∃ k, opsD C (runA C k) p ps ops s = some r := by
  unfold opsD at *
  split at h
  · exact opsF_some h
  · simp only [Option.bind_eq_some_iff] at h ⊢
    obtain ⟨a, h1, h2⟩ := h
    obtain ⟨k, h1⟩ := traceF_some h1
    exact ⟨k, a, h1, h2⟩
theorem drawNF_some {g id : Nat} {ops : Array Oper} {s r : St} (h : drawN C (runF C) g id p ops s = some r) : ∃ k, drawN C (runA C k) g id p ops s = some r := by
  unfold drawN at *
  cases hq : C.pre g id with
  | none => rw [hq] at h; exact opsDF_some h
  | some ms => rw [hq] at h; exact opsXF_some h
theorem loopF_some {f : St → Option (Ex × St)} {F : Nat → St → Option (Ex × St)} (hm : ∀ k k' s r, k ≤ k' → F k s = some r → F k' s = some r) (hf : ∀ s r, f s = some r → ∃ k, F k s = some r) :
    ∀ {n : Nat} {s : St} {r}, loopA f n s = some r → ∃ k, loopA (F k) k s = some r := by
  intro n
  induction n with
  | zero => intro s r h; simp [loopA] at h
  | succ n ih =>
    intro s r h
    simp only [loopA, Option.bind_eq_some_iff] at h
    obtain ⟨⟨e, s1⟩, h1, h2⟩ := h
    obtain ⟨k1, h1⟩ := hf _ _ h1
    cases e with
    | normal =>
      obtain ⟨k2, h2⟩ := ih h2
      refine ⟨max k1 k2 + 1, ?_⟩
      simp only [loopA, Option.bind_eq_some_iff]
      exact ⟨_, hm k1 _ _ _ (by omega) h1, loopA_mono (fun s r h => hm k2 _ _ _ (by omega) h) (by omega) h2⟩
    | exit id =>
      refine ⟨k1 + 1, ?_⟩
      simp only [loopA, Option.bind_eq_some_iff]
      exact ⟨_, hm k1 _ _ _ (by omega) h1, h2⟩
    | ret =>
      refine ⟨k1 + 1, ?_⟩
      simp only [loopA, Option.bind_eq_some_iff]
      exact ⟨_, hm k1 _ _ _ (by omega) h1, h2⟩
theorem codeF_some : ∀ (x : Code) {s : St} {r}, codeF C g p x s = some r → ∃ k, codeA C (runA C k) g p k x s = some r := by
  intro x
  induction x with
  | skip => intro s r hr; exact ⟨0, hr⟩
  | label => intro s r hr; exact ⟨0, hr⟩
  | region id ops draw =>
    intro s r hr
    simp only [codeF, Option.map_eq_some_iff] at hr
    obtain ⟨a, h1, h2⟩ := hr
    cases draw with
    | false =>
      obtain ⟨k, h1⟩ := opsF_some h1
      exact ⟨k, by simp only [codeA, Option.map_eq_some_iff]; exact ⟨a, h1, h2⟩⟩
    | true =>
      simp only [if_true, drawA] at h1
      cases hq : C.hook g id with
      | some q => rw [hq] at h1; exact ⟨0, by simp only [codeA, Option.map_eq_some_iff, if_true, drawA, hq]; exact ⟨a, h1, h2⟩⟩
      | none =>
        rw [hq] at h1
        obtain ⟨k, h1⟩ := drawNF_some h1
        exact ⟨k, by simp only [codeA, Option.map_eq_some_iff, if_true, drawA, hq]; exact ⟨a, h1, h2⟩⟩
  | seq a b iha ihb =>
    intro s r hr
    simp only [codeF, Option.bind_eq_some_iff] at hr
    obtain ⟨⟨e, s1⟩, h1, h2⟩ := hr
    obtain ⟨k1, h1⟩ := iha h1
    cases e with
    | normal =>
      obtain ⟨k2, h2⟩ := ihb h2
      refine ⟨max k1 k2, ?_⟩
      simp only [codeA, Option.bind_eq_some_iff]
      exact ⟨_, codeA_mono (runA_le (Nat.le_max_left _ _)) (Nat.le_max_left _ _) a h1, codeA_mono (runA_le (Nat.le_max_right _ _)) (Nat.le_max_right _ _) b h2⟩
    | exit id => exact ⟨k1, by simp only [codeA, Option.bind_eq_some_iff]; exact ⟨_, h1, h2⟩⟩
    | ret => exact ⟨k1, by simp only [codeA, Option.bind_eq_some_iff]; exact ⟨_, h1, h2⟩⟩
  | cond k a b iha ihb =>
    intro s r hr
    simp only [codeF] at hr
    split at hr
    · rename_i x hx
      cases x with
      | false =>
        obtain ⟨k, h⟩ := ihb (by simpa using hr)
        exact ⟨k, by simp only [codeA, hx]; simpa using h⟩
      | true =>
        obtain ⟨k, h⟩ := iha (by simpa using hr)
        exact ⟨k, by simp only [codeA, hx]; simpa using h⟩
    · cases hr
  | block id a ih =>
    intro s r hr
    simp only [codeF, Option.map_eq_some_iff] at hr
    obtain ⟨a, h1, h2⟩ := hr
    obtain ⟨k, h1⟩ := ih h1
    exact ⟨k, by simp only [codeA, Option.map_eq_some_iff]; exact ⟨_, h1, h2⟩⟩
  | loop a ih =>
    intro s r hr
    obtain ⟨n, hn⟩ := lim_some (show lim (fun n => loopA (codeF C g p a) n s) = some r from hr)
    obtain ⟨k, hk⟩ := loopF_some (F := fun k => codeA C (runA C k) g p k a) (fun k k' s r hk h => codeA_mono (runA_le hk) hk a h) (fun s r h => ih h) hn
    exact ⟨k, hk⟩
  | scope a ih => intro s r hr; exact ih hr
  | exit => intro s r hr; exact ⟨0, hr⟩
  | ret => intro s r hr; exact ⟨0, hr⟩
  | rangeFunc => intro s r hr; simp [codeF] at hr
  | goto => intro s r hr; simp [codeF] at hr
  | refuse => intro s r hr; simp [codeF] at hr

theorem run_intro {f : Nat} {args : List V} {σ : List O} {fn : Func} {c : Code} {e : Ex} {s' : St} {r : V × List O} (h1 : C.prim f = none) (h2 : C.bar f = false) (h3 : C.P.funcs[f]? = some fn) (h4 : fn.body = some c)
    (h5 : codeF C f p c ⟨T.ofList args, max args.length fn.ntmps, σ, 0⟩ = some (e, s')) (h6 : doneA C f p σ.length args fn.results.toList (e, s') = some r) (hM : C.primM f = none := by rfl) : runF C f args σ p = some r := by
  obtain ⟨k, hk⟩ := codeF_some c h5
  refine runF_of (k := k + 1) ?_
  simp only [runA, h1, hM, h2, h3, h4, Bool.false_eq_true, if_false, hk, Option.bind_some, h6]
theorem run_prim {f : Nat} {args : List V} {σ : List O} {q : List V → List O → Option V} {v : V} (h1 : C.prim f = some q) (h2 : q args σ = some v) : runF C f args σ p = some (v, σ) :=
  runF_of (k := 1) (by simp only [runA, h1, h2, Option.map_some])

/-! Rules. -/
def Wp (C : Cfg) (g : Nat) (p : List Nat) (c : Code) (s : St) (Q : Ex → St → Prop) : Prop := ∃ e s', codeF C g p c s = some (e, s') ∧ Q e s'
variable {s : St} {Q Q' : Ex → St → Prop}
theorem Wp.mono {c : Code} (h : Wp C g p c s Q) (hq : ∀ e s', Q e s' → Q' e s') : Wp C g p c s Q' := by
  obtain ⟨e, s', h1, h2⟩ := h
  exact ⟨e, s', h1, hq _ _ h2⟩
theorem Wp.skip (h : Q .normal s) : Wp C g p .skip s Q := ⟨_, _, rfl, h⟩
theorem Wp.exit {id : Nat} (h : Q (.exit id) s) : Wp C g p (.exit id) s Q := ⟨_, _, rfl, h⟩
theorem Wp.ret (h : Q .ret s) : Wp C g p .ret s Q := ⟨_, _, rfl, h⟩
theorem Wp.region {id : Nat} {ops : Array Oper} {s' : St} (h : opsA C (runF C) p ops ops.toList s = some s') (hq : Q .normal s') : Wp C g p (.region id ops false) s Q :=
  ⟨_, s', by simp [codeF, h], hq⟩
theorem Wp.draw {id : Nat} {ops : Array Oper} {s' : St} (hh : C.hook g id = none) (hx : C.pre g id = none) (h : opsD C (runF C) p (C.cls g id) ops s = some s') (hq : Q .normal s') : Wp C g p (.region id ops true) s Q :=
  ⟨_, s', by simp [codeF, drawA, drawN, hh, hx, h], hq⟩
theorem Wp.seq {a b : Code} (h : Wp C g p a s fun e s' => match e with | .normal => Wp C g p b s' Q | e => Q e s') : Wp C g p (.seq a b) s Q := by
  obtain ⟨e, s1, h1, h2⟩ := h
  cases e with
  | normal =>
    obtain ⟨e, s2, h3, h4⟩ := h2
    exact ⟨e, s2, by simp [codeF, h1, h3], h4⟩
  | exit id => exact ⟨_, s1, by simp [codeF, h1], h2⟩
  | ret => exact ⟨_, s1, by simp [codeF, h1], h2⟩
theorem Wp.cond {k : Operand} {a b : Code} {x : Bool} (hk : s.ev C k = .b x) (h : if x then Wp C g p a s Q else Wp C g p b s Q) : Wp C g p (.cond k a b) s Q := by
  cases x with
  | false => obtain ⟨e, s1, h1, h2⟩ := (by simpa using h : Wp C g p b s Q); exact ⟨e, s1, by simp [codeF, hk, h1], h2⟩
  | true => obtain ⟨e, s1, h1, h2⟩ := (by simpa using h : Wp C g p a s Q); exact ⟨e, s1, by simp [codeF, hk, h1], h2⟩
theorem Wp.block {id : Nat} {a : Code} (h : Wp C g p a s fun e s' => Q (if e = .exit id then .normal else e) s') : Wp C g p (.block id a) s Q := by
  obtain ⟨e, s1, h1, h2⟩ := h
  exact ⟨_, s1, by simp [codeF, h1], h2⟩
theorem Wp.scope {a : Code} (h : Wp C g p a s Q) : Wp C g p (.scope a) s Q := h
theorem loopF_of {f : St → Option (Ex × St)} {n : Nat} {s : St} {r} (h : loopA f n s = some r) : loopF f s = some r :=
  lim_of (fun k k' r hk h => loopA_mono (fun s r h => h) hk h) h
theorem Wp.loop {a : Code} (I : Nat → St → Prop) (n : Nat) (h0 : I n s)
    (h : ∀ n s, I n s → Wp C g p a s fun e s' => match e with | .normal => ∃ m, m < n ∧ I m s' | e => Q e s') : Wp C g p (.loop a) s Q := by
  induction n using Nat.strongRecOn generalizing s with
  | _ n ih =>
    obtain ⟨e, s1, h1, h2⟩ := h n s h0
    cases e with
    | normal =>
      obtain ⟨m, hm, hI⟩ := h2
      obtain ⟨e, s2, h3, h4⟩ := ih m hm hI
      obtain ⟨k, hk⟩ := lim_some (show lim (fun n => loopA (codeF C g p a) n s1) = some (e, s2) from h3)
      exact ⟨e, s2, loopF_of (n := k + 1) (by simp [loopA, h1, hk]), h4⟩
    | exit id => exact ⟨_, s1, loopF_of (n := 1) (by simp [loopA, h1]), h2⟩
    | ret => exact ⟨_, s1, loopF_of (n := 1) (by simp [loopA, h1]), h2⟩
theorem run_wp {f : Nat} {args : List V} {σ : List O} {fn : Func} {c : Code} {r : V × List O} (h1 : C.prim f = none) (h2 : C.bar f = false) (h3 : C.P.funcs[f]? = some fn) (h4 : fn.body = some c)
    (h5 : Wp C f p c ⟨T.ofList args, max args.length fn.ntmps, σ, 0⟩ fun e s' => doneA C f p σ.length args fn.results.toList (e, s') = some r) (hM : C.primM f = none := by rfl) : runF C f args σ p = some r := by
  obtain ⟨e, s', h5, h6⟩ := h5
  exact run_intro h1 h2 h3 h4 h5 h6 hM

theorem true_of_run (hp : PrimOk C) (hk : fnsOk C = true) (hm : C.P.follows .mixedOrders = true) {f : Nat} {fn : Func} {c : Code} (h1 : C.prim f = none) (h2 : C.bar f = false) (h3 : C.P.funcs[f]? = some fn) (h4 : fn.body = some c)
    {args : List V} {cargs : Array Value} {W : World} (hg : GR C ⟨fun _ => none, fun b => b < W.heap.size⟩ W) (ha : RelL ⟨fun _ => none, fun b => b < W.heap.size⟩ W args cargs.toList) (hr : runF C f args [] [] = some (.b true, [])) :
    Calls C.P f cargs W fun e W' => e = .returned (.bool true) ∧ Below W.heap.size W W' := by
  obtain ⟨k, hk'⟩ := runF_some hr
  obtain ⟨nx, w1, M1, hrun, hE, hMR, rfl, hcase⟩ := run_sound hp hk (draw_sound hm hp.still) k W.heap.size f args [] [] _ _ hk' ⟨fun _ => none, fun b => b < W.heap.size⟩ W cargs.toList
    ⟨⟨fun r r' o o' st st' b n n' h => by simp at h, fun r o st b n h => by simp at h, fun st b n h => by simp at h, fun b h => h, Nat.le_refl _⟩, fun r o h => by simp at h⟩
    hg ha (fun _ => rfl) (fun r o st q h => by simp at h)
  cases k with
  | zero => simp [runA] at hk'
  | succ k =>
    obtain ⟨_, hnm⟩ := fnsOk_get hk h1 h2 h3 h4
    have hcf := run_callFunc (C := C) hnm h3 h4 cargs.toList.toArray W
    rw [hcf] at hrun
    simp only [Result.ok.injEq] at hrun
    obtain ⟨rfl, rfl⟩ := hrun
    rcases hcase with ⟨y, he, _⟩ | ⟨_, hc⟩
    · cases he
    · refine hc.mono fun e W' h => ?_
      obtain ⟨M', y, rfl, hy, hE', _⟩ := h
      exact ⟨by rw [hy.b_inv], hE'.below⟩
end
end Go.Am
