/- Code of the abstract machine is what the model's does. -/
import Derived.Test.YtijdfdkngbpodaaAmOps9
import Derived.Test.YtijdfdkngbpodaaAmDraw2
import Derived.Calls
import Derived.Tactics
import Derived.LoopN
import Derived.Scope
namespace Go.Am
open Go.RowKit
set_option linter.unusedVariables false
set_option linter.unusedSimpArgs false

section
variable {C : Cfg} {M M' : Mp} {w w' : World} {B0 : Nat} {p : List Nat}

/-- The memory: all of it stands. -/
structure MR (B0 : Nat) (M : Mp) (σ : List O) (w : World) : Prop where
  sep : Sep B0 M σ w
  obj : ∀ (r : Nat) o, σ[r]? = some o → ObjRel M w o
/-- Names that are yet to be given: those of a path from a number on. -/
structure FrC (M : Mp) (σ : List O) (p : List Nat) (c : Nat) : Prop where
  m : ∀ k st, c ≤ k → Mine p k st → M.m st = none
  s : ∀ (r : Nat) o st k, σ[r]? = some o → o.st = some st → c ≤ k → ¬ Mine p k st
theorem FrC.fr {σ : List O} {c : Nat} (h : FrC M σ p c) : Fr M σ p c := ⟨fun st hm => h.m c st (Nat.le_refl _) hm, fun r o st h1 h2 => h.s r o st c h1 h2 (Nat.le_refl _)⟩
theorem mine_inj {c k : Nat} {st : List Nat} (h : Mine p c st) (h' : Mine p k st) : c = k := by
  obtain ⟨q, rfl⟩ := h
  obtain ⟨q', h'⟩ := h'
  have := List.append_inj' h' (by simp)
  simpa using this.2
/-- A frame: its temporaries. -/
structure FR (M : Mp) (w : World) (s : St) (a : Act) : Prop where
  defers : a.defers = []
  size : a.tmps.size = s.nt
  tmp : ∀ d, Rel M w ((s.t.get d).getD .un) (a.tmps.getD d undef)
structure GR (C : Cfg) (M : Mp) (w : World) : Prop where
  glob : ∀ g cs, C.glob g = some cs → Rel M w (.iptr cs) (.pointer (some ⟨g, 0, none⟩))
theorem GR.mono (h : GR C M w) (e : Ext B0 M M' w w') : GR C M' w' := ⟨fun g cs hg => (h.glob g cs hg).mono e⟩
theorem FR.mono {s : St} {a : Act} (h : FR M w s a) (e : Ext B0 M M' w w') : FR M' w' s a := ⟨h.defers, h.size, fun d => (h.tmp d).mono e⟩

theorem rel_un : Rel M w .un undef := .tup [] [] .nil
theorem ev_rel (hg : GR C M w) {s : St} {a : Act} (h : FR M w s a) (x : Operand) : Rel M w (s.ev C x) (a.eval x) := by
  cases x with
  | tmp t => exact h.tmp t
  | const v => exact rel_ofVal v
  | global g =>
    simp only [St.ev, Act.eval]
    split
    · rename_i cs hc; exact hg.glob g cs hc
    · exact .bad _
  | func f => exact .fn f [] [] [] [] .nil .nil
theorem FR.put {s : St} {a : Act} (h : FR M w s a) (d : Option Nat) {v : V} {y : Value} (hv : Rel M w v y) : FR M w (s.put d v) (a.put d y) := by
  cases d with
  | none => exact h
  | some d =>
    simp only [St.put, Act.put]
    split
    · rename_i hd
      refine ⟨h.defers, by simp [h.size], fun k => ?_⟩
      rw [T.get_set]
      by_cases e : k = d
      · subst e
        rw [if_pos rfl]
        simp [Array.getD_eq_getD_getElem?, h.size, hd]
        exact hv
      · rw [if_neg e]
        have := h.tmp k
        rw [Array.getD_eq_getD_getElem?] at this ⊢
        rwa [Array.getElem?_setIfInBounds_ne (Ne.symm e)]
    · rename_i hd
      have : a.tmps.setIfInBounds d y = a.tmps := by
        rw [Array.setIfInBounds, dif_neg (by rw [h.size]; exact hd)]
      rw [this]
      exact h

theorem guard_sound {s : St} {a : Act} (h : FR M w s a) (ops : Array Oper) (o : Oper) {g : Bool} (hg : guardA ops s o.guard = some g) : Region.wanted o (yielded ops a.tmps) = g := by
  unfold Region.wanted
  cases hgd : o.guard with
  | none => simp [guardA, hgd] at hg; simp [hg]
  | some jw =>
    obtain ⟨j, want⟩ := jw
    rw [hgd] at hg
    simp only [guardA] at hg
    unfold yielded
    split at hg
    · rename_i d hd
      simp only [hd, Option.bind_some]
      have ht := h.tmp d
      rw [Array.getD_eq_getD_getElem?] at ht
      split at hg
      · rename_i x hx
        simp at hg; subst hg
        rw [hx] at ht
        cases hq : a.tmps[d]? with
        | none => rw [hq] at ht; simp at ht; cases ht
        | some y => rw [hq] at ht; simp at ht; rw [ht.b_inv]; simp
      · simp at hg
      · rename_i h1 h2
        simp at hg; subst hg
        cases hq : a.tmps[d]? with
        | none => simp
        | some y =>
          rw [hq] at ht
          simp only [Option.getD_some] at ht
          cases hs : s.t.get d with
          | none => rw [hs] at ht; cases ht; simp
          | some v =>
            rw [hs] at ht
            simp only [Option.getD_some] at ht
            cases ht <;> simp_all
    · rename_i hd
      simp at hg; subst hg
      simp [hd]

/-- A state of the abstract machine within a function, and the model's. -/
structure SR (C : Cfg) (B0 : Nat) (p : List Nat) (M : Mp) (s : St) (a : Act) (w : World) : Prop where
  mem : MR B0 M s.σ w
  fr : FR M w s a
  new : FrC M s.σ p s.c
  gl : GR C M w
/-- What became of names: new ones are the path's. -/
structure Nx (B0 : Nat) (p : List Nat) (M M' : Mp) (s s' : St) (w w' : World) : Prop where
  ext : Ext B0 M M' w w'
  names : ∀ st x, M'.m st = some x → M.m st = some x ∨ ∃ k, s.c ≤ k ∧ Mine p k st
  onames : ∀ (r : Nat) o st, s'.σ[r]? = some o → o.st = some st → (∃ (r' : Nat), ∃ o', s.σ[r']? = some o' ∧ o'.st = some st) ∨ ∃ k, s.c ≤ k ∧ Mine p k st
  len : s.σ.length ≤ s'.σ.length
  cc : s.c ≤ s'.c
theorem Nx.refl (s : St) : Nx B0 p M M s s w w := ⟨Ext.refl _ _ _, fun _ _ h => .inl h, fun r o st h h' => .inl ⟨r, o, h, h'⟩, Nat.le_refl _, Nat.le_refl _⟩
theorem Nx.trans {M1 M2 M3 : Mp} {s1 s2 s3 : St} {w1 w2 w3 : World} (h : Nx B0 p M1 M2 s1 s2 w1 w2) (k : Nx B0 p M2 M3 s2 s3 w2 w3) : Nx B0 p M1 M3 s1 s3 w1 w3 := by
  refine ⟨h.ext.trans k.ext, fun st x e => ?_, fun r o st e1 e2 => ?_, Nat.le_trans h.len k.len, Nat.le_trans h.cc k.cc⟩
  · rcases k.names st x e with e | ⟨q, hq, hm⟩
    · exact h.names st x e
    · exact .inr ⟨q, Nat.le_trans h.cc hq, hm⟩
  · rcases k.onames r o st e1 e2 with ⟨r', o', e3, e4⟩ | ⟨q, hq, hm⟩
    · exact h.onames r' o' st e3 e4
    · exact .inr ⟨q, Nat.le_trans h.cc hq, hm⟩

/-- What is known of a call: of functions' runs. -/
def CallOk (C : Cfg) (call : CallF) : Prop :=
  ∀ (B0 : Nat) (f : Nat) (args : List V) (σ : List O) (p : List Nat) (v : V) (σ' : List O), call f args σ p = some (v, σ') →
    ∀ (M : Mp) (w : World) (cargs : List Value), MR B0 M σ w → GR C M w → RelL M w args cargs → (∀ q, M.m (q ++ p) = none) → (∀ (r : Nat) o st q, σ[r]? = some o → o.st = some st → st ≠ q ++ p) →
    ∃ nx w1 M1, (callFunc f cargs.toArray).run C.P w = .ok nx w1 ∧ Ext B0 M M1 w w1 ∧ MR B0 M1 σ w1 ∧ M1 = M ∧
      ((∃ y, nx = .value y ∧ Rel M1 w1 v y ∧ σ' = σ) ∨
       (nx = .enter f cargs.toArray ∧ Calls C.P f cargs.toArray w1 fun e w' => ∃ M' y, e = .returned y ∧ Rel M' w' v y ∧ Ext B0 M1 M' w1 w' ∧ MR B0 M' σ' w' ∧ σ.length ≤ σ'.length ∧
        (∀ st x, M'.m st = some x → M1.m st = some x ∨ ∃ q, st = q ++ p) ∧
        (∀ (r : Nat) o st, σ'[r]? = some o → o.st = some st → (∃ (r' : Nat), ∃ o', σ[r']? = some o' ∧ o'.st = some st) ∨ ∃ q, st = q ++ p)))

theorem new_of {s s' : St} {c' : Nat} (hn : FrC M s.σ p s.c) (h1 : ∀ st x, M'.m st = some x → M.m st = some x ∨ ∃ k, s.c ≤ k ∧ k < c' ∧ Mine p k st)
    (h2 : ∀ (r : Nat) o st, s'.σ[r]? = some o → o.st = some st → (∃ (r' : Nat), ∃ o', s.σ[r']? = some o' ∧ o'.st = some st) ∨ ∃ k, s.c ≤ k ∧ k < c' ∧ Mine p k st) (hc : s.c ≤ c') : FrC M' s'.σ p c' := by
  refine ⟨fun k st hk hm => ?_, fun r o st k e1 e2 hk hm => ?_⟩
  · cases hx : M'.m st with
    | none => rfl
    | some x =>
      rcases h1 st x hx with e | ⟨k', a1, a2, a3⟩
      · rw [hn.m k st (by omega) hm] at e; cases e
      · have := mine_inj hm a3; omega
  · rcases h2 r o st e1 e2 with ⟨r', o', e3, e4⟩ | ⟨k', a1, a2, a3⟩
    · exact hn.s r' o' st k e3 e4 (by omega) hm
    · have := mine_inj hm a3; omega

theorem put_keeps (s : St) (d : Option Nat) (v : V) : (s.put d v).σ = s.σ ∧ (s.put d v).c = s.c ∧ (s.put d v).nt = s.nt := by
  cases d with
  | none => exact ⟨rfl, rfl, rfl⟩
  | some d => by_cases h : d < s.nt <;> simp [St.put, h]

/-- A step: an operation that isn't a call of a function. -/
theorem step_op {s : St} {a : Act} (h : SR C B0 p M s a w) (o : Oper) {v : V} {σ' : List O} {c' : Nat} (hop : opA C p (s.ev C) s.σ s.c o.op = some (v, σ', c'))
    {K : Act → World → Prop} {Q : Exit → Act → World → Prop} (hK : ∀ M' a' w', SR C B0 p M' ((⟨s.t, s.nt, σ', c'⟩ : St).put o.dst v) a' w' → Nx B0 p M M' s ((⟨s.t, s.nt, σ', c'⟩ : St).put o.dst v) w w' → K a' w') :
    o.wp C.P a w K Q := by
  obtain ⟨e1, e2, e3⟩ := put_keeps ⟨s.t, s.nt, σ', c'⟩ o.dst v
  rcases op_sound (N := fun _ => True) (W := fun _ => True) h.mem.sep (fun r o _ ho => h.mem.obj r o ho) h.new.fr o hop (fun x _ => ev_rel h.gl h.fr x) (fun _ _ => trivial) (fun _ _ => trivial) with ⟨rfl, nx, w', M', hrun, hnx, hp⟩ | ⟨rfl, rfl, y, hrun, hr⟩
  · have nx' : ∀ a', FR M' w' ((⟨s.t, s.nt, σ', s.c + 1⟩ : St).put o.dst v) a' → SR C B0 p M' ((⟨s.t, s.nt, σ', s.c + 1⟩ : St).put o.dst v) a' w' ∧ Nx B0 p M M' s ((⟨s.t, s.nt, σ', s.c + 1⟩ : St).put o.dst v) w w' := by
      intro a' hfr
      refine ⟨⟨⟨by rw [e1]; exact hp.sep, fun r ob hob => hp.obj r ob (.inl trivial) (by rw [e1] at hob; exact hob)⟩, hfr, ?_, h.gl.mono hp.ext⟩, ⟨hp.ext, fun st x e => ?_, fun r ob st g1 g2 => ?_, by rw [e1]; exact hp.len, by rw [e2]; exact Nat.le_succ _⟩⟩
      · rw [e2]
        refine new_of (s := s) h.new (fun st x e => ?_) (fun r ob st g1 g2 => ?_) (Nat.le_succ _)
        · rcases hp.names st x e with e | e
          · exact .inl e
          · exact .inr ⟨s.c, Nat.le_refl _, Nat.lt_succ_self _, e⟩
        · rw [e1] at g1
          rcases hp.onames r ob st g1 g2 with e | e
          · exact .inl e
          · exact .inr ⟨s.c, Nat.le_refl _, Nat.lt_succ_self _, e⟩
      · rcases hp.names st x e with e | e
        · exact .inl e
        · exact .inr ⟨s.c, Nat.le_refl _, e⟩
      · rw [e1] at g1
        rcases hp.onames r ob st g1 g2 with e | e
        · exact .inl e
        · exact .inr ⟨s.c, Nat.le_refl _, e⟩
    unfold Oper.wp
    rw [hrun]
    have hfr0 : FR M' w' (⟨s.t, s.nt, σ', s.c + 1⟩ : St) a := ⟨h.fr.defers, h.fr.size, fun d => (h.fr.tmp d).mono hp.ext⟩
    rcases hnx with ⟨y, rfl, hr⟩ | ⟨rfl, rfl⟩
    · obtain ⟨h1, h2⟩ := nx' _ (hfr0.put o.dst hr)
      exact hK M' _ w' h1 h2
    · obtain ⟨h1, h2⟩ := nx' _ (hfr0.put o.dst rel_un)
      exact hK M' _ w' h1 h2
  · unfold Oper.wp
    rw [hrun]
    have hfr0 : FR M w (⟨s.t, s.nt, s.σ, s.c⟩ : St) a := ⟨h.fr.defers, h.fr.size, h.fr.tmp⟩
    refine hK M _ w ⟨by rw [e1]; exact h.mem, hfr0.put o.dst hr, by rw [e1, e2]; exact h.new, h.gl⟩ ⟨Ext.refl _ _ _, fun _ _ h => .inl h, fun r ob st g1 g2 => .inl ⟨r, ob, by rw [e1] at g1; exact g1, g2⟩, by rw [e1]; exact Nat.le_refl _, by rw [e2]; exact Nat.le_refl _⟩

theorem rel_fn_args {a : Act} {s : St} (h : FR M w s a) (hg : GR C M w) (args : Array Operand) : RelL M w (args.toList.map (s.ev C)) (args.toList.map a.eval) :=
  RelL.map_ev _ _ _ fun x _ => ev_rel hg h x

/-- A call of a function, of a contract or of code. -/
theorem call_op {call : CallF} (hcall : CallOk C call) {s : St} {a : Act} (h : SR C B0 p M s a w) (o : Oper) {f : Operand} {args : Array Operand} {ts : Array TypeId} (ho : o.op = .call { callee := .value f, args := args, argTypes := ts })
    {v : V} {σ' : List O} (hc : callA call p (s.ev C f) (args.toList.map (s.ev C)) s.σ s.c = some (v, σ'))
    {K : Act → World → Prop} {Q : Exit → Act → World → Prop} (hK : ∀ M' a' w', SR C B0 p M' ((⟨s.t, s.nt, σ', s.c + 1⟩ : St).put o.dst v) a' w' → Nx B0 p M M' s ((⟨s.t, s.nt, σ', s.c + 1⟩ : St).put o.dst v) w w' → K a' w') :
    o.wp C.P a w K Q := by
  obtain ⟨e1, e2, e3⟩ := put_keeps ⟨s.t, s.nt, σ', s.c + 1⟩ o.dst v
  have hf := ev_rel h.gl h.fr f
  unfold callA at hc
  split at hc
  · rename_i g fi ca hfe
    rw [hfe] at hf
    obtain ⟨us, vs, hfv, hus, hvs⟩ := hf.fn_inv
    have hargs : RelL M w (fi ++ args.toList.map (s.ev C) ++ ca) (us ++ args.toList.map a.eval ++ vs) := (hus.append (rel_fn_args h.fr h.gl args)).append hvs
    have hnm : ∀ q, M.m (q ++ (s.c :: p)) = none := fun q => h.new.m s.c _ (Nat.le_refl _) ⟨q, rfl⟩
    have hns : ∀ (r : Nat) o st q, s.σ[r]? = some o → o.st = some st → st ≠ q ++ (s.c :: p) := fun r o st q g1 g2 e => h.new.s r o st s.c g1 g2 (Nat.le_refl _) ⟨q, e⟩
    obtain ⟨nx, w1, M1, hrun, hE, hMR, rfl, hcase⟩ := hcall B0 g _ s.σ (s.c :: p) v σ' hc M w _ h.mem h.gl hargs hnm hns
    have hexec : (execOp a.eval o).run C.P w = .ok nx w1 := by
      have harr : us.toArray ++ Array.map a.eval args ++ vs.toArray = (us ++ args.toList.map a.eval ++ vs).toArray := by
        apply Array.ext'; simp
      simp only [execOp, ho, resolve, hfv, Deferred.ofValue, Sem.run_bind, Sem.run_pure, Result.andThen_ok, invoke, harr]
      exact hrun
    -- what is known behind the call
    have fin : ∀ (M' : Mp) (w' : World) (y : Value), Rel M' w' v y → Ext B0 M1 M' w w' → MR B0 M' σ' w' → s.σ.length ≤ σ'.length →
        (∀ st x, M'.m st = some x → M1.m st = some x ∨ ∃ q, st = q ++ (s.c :: p)) → (∀ (r : Nat) o st, σ'[r]? = some o → o.st = some st → (∃ (r' : Nat), ∃ o', s.σ[r']? = some o' ∧ o'.st = some st) ∨ ∃ q, st = q ++ (s.c :: p)) →
        K (a.put o.dst y) w' := by
      intro M' w' y hv hE' hMR' hlen hn1 hn2
      have hfr0 : FR M' w' (⟨s.t, s.nt, σ', s.c + 1⟩ : St) a := ⟨h.fr.defers, h.fr.size, fun d => (h.fr.tmp d).mono hE'⟩
      refine hK M' _ w' ⟨by rw [e1]; exact hMR', hfr0.put o.dst hv, ?_, h.gl.mono hE'⟩ ⟨hE', fun st x e => ?_, fun r ob st g1 g2 => ?_, by rw [e1]; exact hlen, by rw [e2]; exact Nat.le_succ _⟩
      · rw [e2]
        refine new_of (s := s) h.new (fun st x e => ?_) (fun r ob st g1 g2 => ?_) (Nat.le_succ _)
        · rcases hn1 st x e with e | e
          · exact .inl e
          · exact .inr ⟨s.c, Nat.le_refl _, Nat.lt_succ_self _, e⟩
        · rw [e1] at g1
          rcases hn2 r ob st g1 g2 with e | e
          · exact .inl e
          · exact .inr ⟨s.c, Nat.le_refl _, Nat.lt_succ_self _, e⟩
      · rcases hn1 st x e with e | e
        · exact .inl e
        · exact .inr ⟨s.c, Nat.le_refl _, e⟩
      · rw [e1] at g1
        rcases hn2 r ob st g1 g2 with e | e
        · exact .inl e
        · exact .inr ⟨s.c, Nat.le_refl _, e⟩
    unfold Oper.wp
    rw [hexec]
    rcases hcase with ⟨y, rfl, hv, rfl⟩ | ⟨rfl, hcalls⟩
    · exact fin M1 w1 y hv hE hMR (Nat.le_refl _) (fun st x e => .inl e) (fun r o st g1 g2 => .inl ⟨r, o, g1, g2⟩)
    · refine hcalls.mono fun e w' hh => ?_
      obtain ⟨M', y, rfl, hv, hE', hMR', hlen, hn1, hn2⟩ := hh
      exact fin M' w' y hv (hE.trans hE') hMR' hlen hn1 hn2
  · simp at hc

theorem stepA_sound {call : CallF} (hcall : CallOk C call) {s s' : St} {a : Act} (h : SR C B0 p M s a w) (ops : Array Oper) (o : Oper) (hst : stepA C call p ops o s = some s')
    {K : Act → World → Prop} {Q : Exit → Act → World → Prop} (hK : ∀ M' a' w', SR C B0 p M' s' a' w' → Nx B0 p M M' s s' w w' → K a' w') :
    if Region.wanted o (yielded ops a.tmps) then o.wp C.P a w K Q else K (a.put o.dst undef) w := by
  simp only [stepA, Option.bind_eq_some_iff] at hst
  obtain ⟨g, hg, hst⟩ := hst
  rw [guard_sound h.fr ops o hg]
  cases g with
  | true =>
    simp only [if_true] at hst ⊢
    split at hst
    · rename_i f args ts hop
      simp only [Option.map_eq_some_iff] at hst
      obtain ⟨⟨v, σ'⟩, hc, rfl⟩ := hst
      exact call_op hcall h o hop hc hK
    · simp only [Option.map_eq_some_iff] at hst
      obtain ⟨⟨v, σ', c'⟩, hc, rfl⟩ := hst
      exact step_op h o hc hK
  | false =>
    simp only [Bool.false_eq_true, if_false, Option.some.injEq] at hst ⊢
    subst hst
    obtain ⟨e1, e2, e3⟩ := put_keeps s o.dst .un
    exact hK M _ w ⟨by rw [e1]; exact h.mem, h.fr.put o.dst rel_un, by rw [e1, e2]; exact h.new, h.gl⟩ ⟨Ext.refl _ _ _, fun _ _ h => .inl h, fun r ob st g1 g2 => .inl ⟨r, ob, by rw [e1] at g1; exact g1, g2⟩, by rw [e1]; exact Nat.le_refl _, by rw [e2]; exact Nat.le_refl _⟩

theorem opsA_sound {call : CallF} (hcall : CallOk C call) (ops : Array Oper) {Q : Exit → Act → World → Prop} : ∀ (l : List Oper) (s s' : St) (a : Act) (M : Mp) (w : World), SR C B0 p M s a w → opsA C call p ops l s = some s' →
    (∀ M' a' w', SR C B0 p M' s' a' w' → Nx B0 p M M' s s' w w' → Q .normal a' w') → wpList C.P ops Q l a w := by
  intro l
  induction l with
  | nil =>
    intro s s' a M w h hs hQ
    simp [opsA] at hs; subst hs
    exact hQ M a w h (Nx.refl s)
  | cons o l ih =>
    intro s s' a M w h hs hQ
    simp only [opsA, Option.bind_eq_some_iff] at hs
    obtain ⟨s1, hs1, hs⟩ := hs
    have := stepA_sound (Q := Q) hcall h ops o hs1 (K := wpList C.P ops Q l) (fun M' a' w' h' hn => ih s1 s' a' M' w' h' hs fun M2 a2 w2 h2 hn2 => hQ M2 a2 w2 h2 (hn.trans hn2))
    unfold wpList
    split
    · rename_i hw; rw [if_pos hw] at this; exact .inl this
    · rename_i hw; rw [if_neg hw] at this; exact this

def Ex.to : Ex → Exit
  | .normal => .normal
  | .exit id => .exit id
  | .ret => .ret
/-- Regions that draw their order: told apart. -/
def DrawOk (C : Cfg) : Prop := ∀ (call : CallF), CallOk C call → ∀ (B0 : Nat) (p : List Nat) (g id : Nat) (ops : Array Oper) (s s' : St) (a : Act) (M : Mp) (w : World), SR C B0 p M s a w → okD C (C.cls g id) ops = true → opsD C call p (C.cls g id) ops s = some s' →
  (Code.region id ops true).wp C.P (fun e a' w' => e = .normal ∧ ∃ M', SR C B0 p M' s' a' w' ∧ Nx B0 p M M' s s' w w') a w

/-- Is a region in a code? -/
def RegIn (id : Nat) (ops : Array Oper) : Code → Prop
  | .region i o d => i = id ∧ o = ops ∧ d = true
  | .seq a b | .cond _ a b | .rangeFunc _ _ a b => RegIn id ops a ∨ RegIn id ops b
  | .block _ a | .loop a | .scope a => RegIn id ops a
  | _ => False
/-- Regions that are told by what they come to. -/
def HookOk (C : Cfg) : Prop := ∀ (g id : Nat) (h : List Nat → St → Option St), C.hook g id = some h → ∀ (fn : Func) (c0 : Code) (ops : Array Oper), C.P.funcs[g]? = some fn → fn.body = some c0 → RegIn id ops c0 →
  ∀ (B0 : Nat) (p : List Nat) (s s' : St) (a : Act) (M : Mp) (w : World), SR C B0 p M s a w → h p s = some s' →
  (Code.region id ops true).wp C.P (fun e a' w' => e = .normal ∧ ∃ M', SR C B0 p M' s' a' w' ∧ Nx B0 p M M' s s' w w') a w
theorem hook_none {C : Cfg} (h : ∀ g id, C.hook g id = none) : HookOk C := fun g id q hq => by rw [h] at hq; cases hq

theorem code_sound {call : CallF} (hcall : CallOk C call) (hdraw : DrawOk C) (hhook : HookOk C) (g n : Nat) : ∀ (c : Code) (s s' : St) (e : Ex) (a : Act) (M : Mp) (w : World), (∀ id ops, RegIn id ops c → ∃ fn c0, C.P.funcs[g]? = some fn ∧ fn.body = some c0 ∧ RegIn id ops c0) → regsOk C g c = true → SR C B0 p M s a w → codeA C call g p n c s = some (e, s') →
    c.wp C.P (fun e' a' w' => e' = e.to ∧ ∃ M', SR C B0 p M' s' a' w' ∧ Nx B0 p M M' s s' w w') a w := by
  intro c
  induction c with
  | skip =>
    intro s s' e a M w hin hrg h hc
    simp [codeA] at hc; obtain ⟨rfl, rfl⟩ := hc
    exact wp_skip ⟨rfl, M, h, Nx.refl s⟩
  | label l =>
    intro s s' e a M w hin hrg h hc
    simp [codeA] at hc; obtain ⟨rfl, rfl⟩ := hc
    exact wp_label ⟨rfl, M, h, Nx.refl s⟩
  | region id ops draw =>
    intro s s' e a M w hin hrg h hc
    simp only [codeA, Option.map_eq_some_iff, Prod.mk.injEq] at hc
    obtain ⟨s1, hs1, rfl, rfl⟩ := hc
    cases draw with
    | false =>
      simp only [Bool.false_eq_true, if_false] at hs1
      exact wp_region_list (opsA_sound hcall ops _ s s1 a M w h hs1 fun M' a' w' h' hn => ⟨rfl, M', h', hn⟩)
    | true =>
      simp only [if_true] at hs1
      unfold drawA at hs1
      split at hs1
      · rename_i q hq
        obtain ⟨fn, c0, k1, k2, k3⟩ := hin id ops ⟨rfl, rfl, rfl⟩
        exact hhook g id q hq fn c0 ops k1 k2 k3 B0 p s s1 a M w h hs1
      · rename_i hq
        exact hdraw call hcall B0 p g id ops s s1 a M w h (by simpa [regsOk, hq] using hrg) hs1
  | seq c1 c2 ih1 ih2 =>
    intro s s' e a M w hin hrg h hc
    simp only [codeA, Option.bind_eq_some_iff] at hc
    obtain ⟨⟨e1, s1⟩, h1, hc⟩ := hc
    refine wp_seq (wp_mono (ih1 s s1 e1 a M w (fun id ops q => hin id ops (.inl q)) (by simp only [regsOk, Bool.and_eq_true] at hrg; exact hrg.1) h h1) ?_)
    rintro e' a' w' ⟨rfl, M', h', hn⟩
    cases e1 with
    | normal =>
      simp only at hc
      refine wp_mono (ih2 s1 s' e a' M' w' (fun id ops q => hin id ops (.inr q)) (by simp only [regsOk, Bool.and_eq_true] at hrg; exact hrg.2) h' hc) ?_
      rintro e' a2 w2 ⟨rfl, M2, h2, hn2⟩
      exact ⟨rfl, M2, h2, hn.trans hn2⟩
    | exit id => simp at hc; obtain ⟨rfl, rfl⟩ := hc; exact ⟨rfl, M', h', hn⟩
    | ret => simp at hc; obtain ⟨rfl, rfl⟩ := hc; exact ⟨rfl, M', h', hn⟩
  | cond k c1 c2 ih1 ih2 =>
    intro s s' e a M w hin hrg h hc
    simp only [codeA] at hc
    split at hc
    · rename_i x hk
      have hkr := ev_rel h.gl h.fr k
      rw [hk] at hkr
      refine wp_cond hkr.b_inv ?_
      cases x
      · exact ih2 s s' e a M w (fun id ops q => hin id ops (.inr q)) (by simp only [regsOk, Bool.and_eq_true] at hrg; exact hrg.2) h (by simpa using hc)
      · exact ih1 s s' e a M w (fun id ops q => hin id ops (.inl q)) (by simp only [regsOk, Bool.and_eq_true] at hrg; exact hrg.1) h (by simpa using hc)
    · simp at hc
  | block id c ih =>
    intro s s' e a M w hin hrg h hc
    simp only [codeA, Option.map_eq_some_iff, Prod.mk.injEq] at hc
    obtain ⟨⟨e1, s1⟩, h1, rfl, rfl⟩ := hc
    refine wp_block (wp_mono (ih s s1 e1 a M w hin (by simpa [regsOk] using hrg) h h1) ?_)
    rintro e' a' w' ⟨rfl, M', h', hn⟩
    cases e1 with
    | normal => exact ⟨by simp [Ex.to], M', h', hn⟩
    | exit id' =>
      by_cases hid : id' = id
      · subst hid; simp only [Exit.inBlock, Ex.to, if_true]; exact ⟨trivial, M', h', hn⟩
      · have : ¬ (Ex.exit id' = Ex.exit id) := by intro e; injection e; contradiction
        simp only [Exit.inBlock, Ex.to, if_neg hid, if_neg this]; exact ⟨trivial, M', h', hn⟩
    | ret => exact ⟨by simp [Ex.to], M', h', hn⟩
  | loop c ih =>
    intro s s' e a M w hin hrg h hc
    simp only [codeA] at hc
    refine wp_loop_rounds n ?_
    have key : ∀ (Q : Exit → Act → World → Prop) (m : Nat) (s1 : St) (a1 : Act) (M1 : Mp) (w1 : World), SR C B0 p M1 s1 a1 w1 → loopA (codeA C call g p n c) m s1 = some (e, s') →
        (∀ M2 a2 w2, SR C B0 p M2 s' a2 w2 → Nx B0 p M1 M2 s1 s' w1 w2 → Q e.to a2 w2) → Code.rounds C.P c Q m a1 w1 := by
      intro Q m
      induction m with
      | zero => intro s1 a1 M1 w1 h1 hl; simp [loopA] at hl
      | succ m ihm =>
        intro s1 a1 M1 w1 h1 hl hQ
        simp only [loopA, Option.bind_eq_some_iff] at hl
        obtain ⟨⟨e2, s2⟩, h2, hl⟩ := hl
        rw [rounds_succ]
        refine wp_mono (ih s1 s2 e2 a1 M1 w1 hin (by simpa [regsOk] using hrg) h1 h2) ?_
        rintro e' a' w' ⟨rfl, M', h', hn⟩
        cases e2 with
        | normal =>
          simp only at hl
          exact ihm s2 a' M' w' h' hl fun M2 a2 w2 h2 hn2 => hQ M2 a2 w2 h2 (hn.trans hn2)
        | exit id => simp at hl; obtain ⟨rfl, rfl⟩ := hl; exact hQ M' a' w' h' hn
        | ret => simp at hl; obtain ⟨rfl, rfl⟩ := hl; exact hQ M' a' w' h' hn
    exact key _ n s a M w h hc fun M2 a2 w2 h2 hn2 => ⟨rfl, M2, h2, hn2⟩
  | rangeFunc f ps c1 c2 ih1 ih2 => intro s s' e a M w hin hrg h hc; simp [codeA] at hc
  | exit id =>
    intro s s' e a M w hin hrg h hc
    simp [codeA] at hc; obtain ⟨rfl, rfl⟩ := hc
    exact wp_exit ⟨rfl, M, h, Nx.refl s⟩
  | scope c ih =>
    intro s s' e a M w hin hrg h hc
    simp only [codeA] at hc
    refine wp_scope_straight (wp_mono (ih s s' e a M w hin (by simpa [regsOk] using hrg) h hc) ?_)
    rintro e' a' w' ⟨rfl, M', h', hn⟩
    cases e <;> exact ⟨rfl, M', h', hn⟩
  | goto l => intro s s' e a M w hin hrg h hc; simp [codeA] at hc
  | ret =>
    intro s s' e a M w hin hrg h hc
    simp [codeA] at hc; obtain ⟨rfl, rfl⟩ := hc
    exact wp_ret ⟨rfl, M, h, Nx.refl s⟩
  | refuse why => intro s s' e a M w hin hrg h hc; simp [codeA] at hc
end
end Go.Am
