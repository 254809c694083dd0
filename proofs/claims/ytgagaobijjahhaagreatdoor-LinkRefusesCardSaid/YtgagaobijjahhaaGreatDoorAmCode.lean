/- Code of the abstract machine is what the model's does. -/
import Derived.Test.YtgagaobijjahhaaGreatDoorAmOps9
import Derived.Test.YtgagaobijjahhaaGreatDoorAmDraw2
import Derived.Calls
import Derived.Tactics
import Derived.LoopN
import Derived.Scope
import Derived.OrdersIn
import Derived.TacticsIn
import Derived.LoopNIn
import Derived.RangeFuncIn
import Derived.RangeFuncRecord
import Derived.RangeFuncLeaves
import Derived.RangeFuncSeq
import Derived.RangeFuncOwn
namespace Go.Am
open Go.RowKit
set_option linter.unusedVariables false
set_option linter.unusedSimpArgs false

section
variable {C : Cfg} {M M' : Mp} {w w' : World} {B0 : Nat} {p : List Nat}

structure MR (B0 : Nat) (M : Mp) (σ : List O) (w : World) : Prop where
  sep : Sep B0 M σ w
  obj : ∀ (r : Nat) o, σ[r]? = some o → ObjRel M w o
structure FrC (M : Mp) (σ : List O) (p : List Nat) (c : Nat) : Prop where
  m : ∀ k st, c ≤ k → Mine p k st → M.m st = none
  s : ∀ (r : Nat) o st k, σ[r]? = some o → o.st = some st → c ≤ k → ¬ Mine p k st
theorem FrC.fr {σ : List O} {c : Nat} (h : FrC M σ p c) : Fr M σ p c := ⟨fun st hm => h.m c st (Nat.le_refl _) hm, fun r o st h1 h2 => h.s r o st c h1 h2 (Nat.le_refl _)⟩
theorem mine_inj {c k : Nat} {st : List Nat} (h : Mine p c st) (h' : Mine p k st) : c = k := by
  obtain ⟨q, rfl⟩ := h
  obtain ⟨q', h'⟩ := h'
  have := List.append_inj' h' (by simp)
  simpa using this.2
structure FR (M : Mp) (w : World) (s : St) (a : Act) : Prop where
  size : a.tmps.size = s.nt
  tmp : ∀ d, Rel M w ((s.t.get d).getD .un) (a.tmps.getD d undef)
structure GR (C : Cfg) (M : Mp) (w : World) : Prop where
  glob : ∀ g cs, C.glob g = some cs → Rel M w (.iptr cs) (.pointer (some ⟨g, 0, none⟩))
theorem GR.mono (h : GR C M w) (e : Ext B0 M M' w w') : GR C M' w' := ⟨fun g cs hg => (h.glob g cs hg).mono e⟩
theorem FR.mono {s : St} {a : Act} (h : FR M w s a) (e : Ext B0 M M' w w') : FR M' w' s a := ⟨h.size, fun d => (h.tmp d).mono e⟩

theorem rel_un : Rel M w .un undef := .tup [] [] .nil
theorem ev_rel (hg : GR C M w) {s : St} {a : Act} (h : FR M w s a) (x : Operand) : Rel M w (s.ev C x) (a.eval x) := by
  cases x with
  | tmp t => exact h.tmp t
  | const v => exact rel_ofVal v
  | global g =>
    simp only [St.ev, Act.eval]
    split
    · rename_i cs hc; exact hg.glob g cs hc
    · exact .bad _
  | func f => exact .fn f [] [] [] [] .nil .nil
theorem FR.put {s : St} {a : Act} (h : FR M w s a) (d : Option Nat) {v : V} {y : Value} (hv : Rel M w v y) : FR M w (s.put d v) (a.put d y) := by
  cases d with
  | none => exact h
  | some d =>
    simp only [St.put, Act.put]
    split
    · rename_i hd
      refine ⟨by simp [h.size], fun k => ?_⟩
      rw [T.get_set]
      by_cases e : k = d
      · subst e
        rw [if_pos rfl]
        simp [Array.getD_eq_getD_getElem?, h.size, hd]
        exact hv
      · rw [if_neg e]
        have := h.tmp k
        rw [Array.getD_eq_getD_getElem?] at this ⊢
        rwa [Array.getElem?_setIfInBounds_ne (Ne.symm e)]
    · rename_i hd
      have : a.tmps.setIfInBounds d y = a.tmps := by
        rw [Array.setIfInBounds, dif_neg (by rw [h.size]; exact hd)]
      rw [this]
      exact h

theorem guard_sound {s : St} {a : Act} (h : FR M w s a) (ops : Array Oper) (o : Oper) {g : Bool} (hg : guardA ops s o.guard = some g) : Region.wanted o (yielded ops a.tmps) = g := by
  unfold Region.wanted
  cases hgd : o.guard with
  | none => simp [guardA, hgd] at hg; simp [hg]
  | some jw =>
    obtain ⟨j, want⟩ := jw
    rw [hgd] at hg
    simp only [guardA] at hg
    unfold yielded
    split at hg
    · rename_i d hd
      simp only [hd, Option.bind_some]
      have ht := h.tmp d
      rw [Array.getD_eq_getD_getElem?] at ht
      split at hg
      · rename_i x hx
        simp at hg; subst hg
        rw [hx] at ht
        cases hq : a.tmps[d]? with
        | none => rw [hq] at ht; simp at ht; cases ht
        | some y => rw [hq] at ht; simp at ht; rw [ht.b_inv]; simp
      · simp at hg
      · rename_i h1 h2
        simp at hg; subst hg
        cases hq : a.tmps[d]? with
        | none => simp
        | some y =>
          rw [hq] at ht
          simp only [Option.getD_some] at ht
          cases hs : s.t.get d with
          | none => rw [hs] at ht; cases ht; simp
          | some v =>
            rw [hs] at ht
            simp only [Option.getD_some] at ht
            cases ht <;> simp_all
    · rename_i hd
      simp at hg; subst hg
      simp [hd]

structure SR (C : Cfg) (B0 : Nat) (p : List Nat) (M : Mp) (s : St) (a : Act) (w : World) : Prop where
  mem : MR B0 M s.σ w
  fr : FR M w s a
  new : FrC M s.σ p s.c
  gl : GR C M w
structure Nx (B0 : Nat) (p : List Nat) (M M' : Mp) (s s' : St) (w w' : World) : Prop where
  ext : Ext B0 M M' w w'
  names : ∀ st x, M'.m st = some x → M.m st = some x ∨ ∃ k, s.c ≤ k ∧ Mine p k st
  onames : ∀ (r : Nat) o st, s'.σ[r]? = some o → o.st = some st → (∃ o', s.σ[r]? = some o' ∧ o'.st = some st) ∨ ∃ k, s.c ≤ k ∧ Mine p k st
  len : s.σ.length ≤ s'.σ.length
  cc : s.c ≤ s'.c
theorem Nx.refl (s : St) : Nx B0 p M M s s w w := ⟨Ext.refl _ _ _, fun _ _ h => .inl h, fun r o st h h' => .inl ⟨o, h, h'⟩, Nat.le_refl _, Nat.le_refl _⟩
theorem Nx.trans {M1 M2 M3 : Mp} {s1 s2 s3 : St} {w1 w2 w3 : World} (h : Nx B0 p M1 M2 s1 s2 w1 w2) (k : Nx B0 p M2 M3 s2 s3 w2 w3) : Nx B0 p M1 M3 s1 s3 w1 w3 := by
  refine ⟨h.ext.trans k.ext, fun st x e => ?_, fun r o st e1 e2 => ?_, Nat.le_trans h.len k.len, Nat.le_trans h.cc k.cc⟩
  · rcases k.names st x e with e | ⟨q, hq, hm⟩
    · exact h.names st x e
    · exact .inr ⟨q, Nat.le_trans h.cc hq, hm⟩
  · rcases k.onames r o st e1 e2 with ⟨o', e3, e4⟩ | ⟨q, hq, hm⟩
    · exact h.onames r o' st e3 e4
    · exact .inr ⟨q, Nat.le_trans h.cc hq, hm⟩

def CallOk (C : Cfg) (call : CallF) : Prop :=
  ∀ (B0 : Nat) (f : Nat) (args : List V) (σ : List O) (p : List Nat) (v : V) (σ' : List O), call f args σ p = some (v, σ') →
    ∀ (M : Mp) (w : World) (cargs : List Value), MR B0 M σ w → GR C M w → RelL M w args cargs → (∀ q, M.m (q ++ p) = none) → (∀ (r : Nat) o st q, σ[r]? = some o → o.st = some st → st ≠ q ++ p) →
    ∃ nx w1 M1, (callFunc f cargs.toArray).run C.P w = .ok nx w1 ∧ Ext B0 M M1 w w1 ∧ MR B0 M1 σ w1 ∧ M1 = M ∧
      ((∃ y, nx = .value y ∧ Rel M1 w1 v y ∧ σ' = σ) ∨
       (nx = .enter f cargs.toArray ∧ Calls C.P f cargs.toArray w1 fun e w' => ∃ M' y, e = .returned y ∧ Rel M' w' v y ∧ Ext B0 M1 M' w1 w' ∧ MR B0 M' σ' w' ∧ σ.length ≤ σ'.length ∧
        (∀ st x, M'.m st = some x → M1.m st = some x ∨ ∃ q, st = q ++ p) ∧
        (∀ (r : Nat) o st, σ'[r]? = some o → o.st = some st → (∃ o', σ[r]? = some o' ∧ o'.st = some st) ∨ ∃ q, st = q ++ p)))

theorem new_of {s s' : St} {c' : Nat} (hn : FrC M s.σ p s.c) (h1 : ∀ st x, M'.m st = some x → M.m st = some x ∨ ∃ k, s.c ≤ k ∧ k < c' ∧ Mine p k st)
    (h2 : ∀ (r : Nat) o st, s'.σ[r]? = some o → o.st = some st → (∃ o', s.σ[r]? = some o' ∧ o'.st = some st) ∨ ∃ k, s.c ≤ k ∧ k < c' ∧ Mine p k st) (hc : s.c ≤ c') : FrC M' s'.σ p c' := by
  refine ⟨fun k st hk hm => ?_, fun r o st k e1 e2 hk hm => ?_⟩
  · cases hx : M'.m st with
    | none => rfl
    | some x =>
      rcases h1 st x hx with e | ⟨k', a1, a2, a3⟩
      · rw [hn.m k st (by omega) hm] at e; cases e
      · have := mine_inj hm a3; omega
  · rcases h2 r o st e1 e2 with ⟨o', e3, e4⟩ | ⟨k', a1, a2, a3⟩
    · exact hn.s r o' st k e3 e4 (by omega) hm
    · have := mine_inj hm a3; omega

theorem put_defers (a : Act) (d : Option Nat) (y : Value) : (a.put d y).defers = a.defers := by cases d <;> rfl
theorem put_keeps (s : St) (d : Option Nat) (v : V) : (s.put d v).σ = s.σ ∧ (s.put d v).c = s.c ∧ (s.put d v).nt = s.nt := by
  cases d with
  | none => exact ⟨rfl, rfl, rfl⟩
  | some d => by_cases h : d < s.nt <;> simp [St.put, h]

theorem step_op {s : St} {a : Act} (h : SR C B0 p M s a w) (o : Oper) {v : V} {σ' : List O} {c' : Nat} (hop : opA C p (s.ev C) s.σ s.c o.op = some (v, σ', c'))
    {K : Act → World → Prop} {Q : Exit → Act → World → Prop} (hK : ∀ M' a' w', SR C B0 p M' ((⟨s.t, s.nt, σ', c'⟩ : St).put o.dst v) a' w' → Nx B0 p M M' s ((⟨s.t, s.nt, σ', c'⟩ : St).put o.dst v) w w' → a'.defers = a.defers → K a' w') :
    o.wp C.P a w K Q := by
  obtain ⟨e1, e2, e3⟩ := put_keeps ⟨s.t, s.nt, σ', c'⟩ o.dst v
  rcases op_sound (N := fun _ => True) (W := fun _ => True) h.mem.sep (fun r o _ ho => h.mem.obj r o ho) h.new.fr o hop (fun x _ => ev_rel h.gl h.fr x) (fun _ _ => trivial) (fun _ _ => trivial) with ⟨rfl, nx, w', M', hrun, hnx, hp⟩ | ⟨rfl, rfl, y, hrun, hr⟩
  · have nx' : ∀ a', FR M' w' ((⟨s.t, s.nt, σ', s.c + 1⟩ : St).put o.dst v) a' → SR C B0 p M' ((⟨s.t, s.nt, σ', s.c + 1⟩ : St).put o.dst v) a' w' ∧ Nx B0 p M M' s ((⟨s.t, s.nt, σ', s.c + 1⟩ : St).put o.dst v) w w' := by
      intro a' hfr
      refine ⟨⟨⟨by rw [e1]; exact hp.sep, fun r ob hob => hp.obj r ob (.inl trivial) (by rw [e1] at hob; exact hob)⟩, hfr, ?_, h.gl.mono hp.ext⟩, ⟨hp.ext, fun st x e => ?_, fun r ob st g1 g2 => ?_, by rw [e1]; exact hp.len, by rw [e2]; exact Nat.le_succ _⟩⟩
      · rw [e2]
        refine new_of (s := s) h.new (fun st x e => ?_) (fun r ob st g1 g2 => ?_) (Nat.le_succ _)
        · rcases hp.names st x e with e | e
          · exact .inl e
          · exact .inr ⟨s.c, Nat.le_refl _, Nat.lt_succ_self _, e⟩
        · rw [e1] at g1
          rcases hp.onames r ob st g1 g2 with e | e
          · exact .inl e
          · exact .inr ⟨s.c, Nat.le_refl _, Nat.lt_succ_self _, e⟩
      · rcases hp.names st x e with e | e
        · exact .inl e
        · exact .inr ⟨s.c, Nat.le_refl _, e⟩
      · rw [e1] at g1
        rcases hp.onames r ob st g1 g2 with e | e
        · exact .inl e
        · exact .inr ⟨s.c, Nat.le_refl _, e⟩
    unfold Oper.wp
    rw [hrun]
    have hfr0 : FR M' w' (⟨s.t, s.nt, σ', s.c + 1⟩ : St) a := ⟨h.fr.size, fun d => (h.fr.tmp d).mono hp.ext⟩
    rcases hnx with ⟨y, rfl, hr⟩ | ⟨rfl, rfl⟩
    · obtain ⟨h1, h2⟩ := nx' _ (hfr0.put o.dst hr)
      exact hK M' _ w' h1 h2 (put_defers _ _ _)
    · obtain ⟨h1, h2⟩ := nx' _ (hfr0.put o.dst rel_un)
      exact hK M' _ w' h1 h2 (put_defers _ _ _)
  · unfold Oper.wp
    rw [hrun]
    have hfr0 : FR M w (⟨s.t, s.nt, s.σ, s.c⟩ : St) a := ⟨h.fr.size, h.fr.tmp⟩
    refine hK M _ w ⟨by rw [e1]; exact h.mem, hfr0.put o.dst hr, by rw [e1, e2]; exact h.new, h.gl⟩ ⟨Ext.refl _ _ _, fun _ _ h => .inl h, fun r ob st g1 g2 => .inl ⟨ob, by rw [e1] at g1; exact g1, g2⟩, by rw [e1]; exact Nat.le_refl _, by rw [e2]; exact Nat.le_refl _⟩ (put_defers _ _ _)

theorem rel_fn_args {a : Act} {s : St} (h : FR M w s a) (hg : GR C M w) (args : Array Operand) : RelL M w (args.toList.map (s.ev C)) (args.toList.map a.eval) :=
  RelL.map_ev _ _ _ fun x _ => ev_rel hg h x

theorem call_op {call : CallF} (hcall : CallOk C call) {s : St} {a : Act} (h : SR C B0 p M s a w) (o : Oper) {f : Operand} {args : Array Operand} {ts : Array TypeId} (ho : o.op = .call { callee := .value f, args := args, argTypes := ts })
    {v : V} {σ' : List O} (hc : callA call p (s.ev C f) (args.toList.map (s.ev C)) s.σ s.c = some (v, σ'))
    {K : Act → World → Prop} {Q : Exit → Act → World → Prop} (hK : ∀ M' a' w', SR C B0 p M' ((⟨s.t, s.nt, σ', s.c + 1⟩ : St).put o.dst v) a' w' → Nx B0 p M M' s ((⟨s.t, s.nt, σ', s.c + 1⟩ : St).put o.dst v) w w' → a'.defers = a.defers → K a' w') :
    o.wp C.P a w K Q := by
  obtain ⟨e1, e2, e3⟩ := put_keeps ⟨s.t, s.nt, σ', s.c + 1⟩ o.dst v
  have hf := ev_rel h.gl h.fr f
  unfold callA at hc
  split at hc
  · rename_i g fi ca hfe
    rw [hfe] at hf
    obtain ⟨us, vs, hfv, hus, hvs⟩ := hf.fn_inv
    have hargs : RelL M w (fi ++ args.toList.map (s.ev C) ++ ca) (us ++ args.toList.map a.eval ++ vs) := (hus.append (rel_fn_args h.fr h.gl args)).append hvs
    have hnm : ∀ q, M.m (q ++ (s.c :: p)) = none := fun q => h.new.m s.c _ (Nat.le_refl _) ⟨q, rfl⟩
    have hns : ∀ (r : Nat) o st q, s.σ[r]? = some o → o.st = some st → st ≠ q ++ (s.c :: p) := fun r o st q g1 g2 e => h.new.s r o st s.c g1 g2 (Nat.le_refl _) ⟨q, e⟩
    obtain ⟨nx, w1, M1, hrun, hE, hMR, rfl, hcase⟩ := hcall B0 g _ s.σ (s.c :: p) v σ' hc M w _ h.mem h.gl hargs hnm hns
    have hexec : (execOp a.eval o).run C.P w = .ok nx w1 := by
      have harr : us.toArray ++ Array.map a.eval args ++ vs.toArray = (us ++ args.toList.map a.eval ++ vs).toArray := by
        apply Array.ext'; simp
      simp only [execOp, ho, resolve, hfv, Deferred.ofValue, Sem.run_bind, Sem.run_pure, Result.andThen_ok, invoke, harr]
      exact hrun
    -- what is known behind the call
    have fin : ∀ (M' : Mp) (w' : World) (y : Value), Rel M' w' v y → Ext B0 M1 M' w w' → MR B0 M' σ' w' → s.σ.length ≤ σ'.length →
        (∀ st x, M'.m st = some x → M1.m st = some x ∨ ∃ q, st = q ++ (s.c :: p)) → (∀ (r : Nat) o st, σ'[r]? = some o → o.st = some st → (∃ o', s.σ[r]? = some o' ∧ o'.st = some st) ∨ ∃ q, st = q ++ (s.c :: p)) →
        K (a.put o.dst y) w' := by
      intro M' w' y hv hE' hMR' hlen hn1 hn2
      have hfr0 : FR M' w' (⟨s.t, s.nt, σ', s.c + 1⟩ : St) a := ⟨h.fr.size, fun d => (h.fr.tmp d).mono hE'⟩
      refine hK M' _ w' ⟨by rw [e1]; exact hMR', hfr0.put o.dst hv, ?_, h.gl.mono hE'⟩ ⟨hE', fun st x e => ?_, fun r ob st g1 g2 => ?_, by rw [e1]; exact hlen, by rw [e2]; exact Nat.le_succ _⟩ (put_defers _ _ _)
      · rw [e2]
        refine new_of (s := s) h.new (fun st x e => ?_) (fun r ob st g1 g2 => ?_) (Nat.le_succ _)
        · rcases hn1 st x e with e | e
          · exact .inl e
          · exact .inr ⟨s.c, Nat.le_refl _, Nat.lt_succ_self _, e⟩
        · rw [e1] at g1
          rcases hn2 r ob st g1 g2 with e | e
          · exact .inl e
          · exact .inr ⟨s.c, Nat.le_refl _, Nat.lt_succ_self _, e⟩
      · rcases hn1 st x e with e | e
        · exact .inl e
        · exact .inr ⟨s.c, Nat.le_refl _, e⟩
      · rw [e1] at g1
        rcases hn2 r ob st g1 g2 with e | e
        · exact .inl e
        · exact .inr ⟨s.c, Nat.le_refl _, e⟩
    unfold Oper.wp
    rw [hexec]
    rcases hcase with ⟨y, rfl, hv, rfl⟩ | ⟨rfl, hcalls⟩
    · exact fin M1 w1 y hv hE hMR (Nat.le_refl _) (fun st x e => .inl e) (fun r o st g1 g2 => .inl ⟨o, g1, g2⟩)
    · refine hcalls.mono fun e w' hh => ?_
      obtain ⟨M', y, rfl, hv, hE', hMR', hlen, hn1, hn2⟩ := hh
      exact fin M' w' y hv (hE.trans hE') hMR' hlen hn1 hn2
  · simp at hc

theorem stepA_sound {call : CallF} (hcall : CallOk C call) {s s' : St} {a : Act} (h : SR C B0 p M s a w) (ops : Array Oper) (o : Oper) (hst : stepA C call p ops o s = some s')
    {K : Act → World → Prop} {Q : Exit → Act → World → Prop} (hK : ∀ M' a' w', SR C B0 p M' s' a' w' → Nx B0 p M M' s s' w w' → a'.defers = a.defers → K a' w') :
    if Region.wanted o (yielded ops a.tmps) then o.wp C.P a w K Q else K (a.put o.dst undef) w := by
  simp only [stepA, Option.bind_eq_some_iff] at hst
  obtain ⟨g, hg, hst⟩ := hst
  rw [guard_sound h.fr ops o hg]
  cases g with
  | true =>
    simp only [if_true] at hst ⊢
    split at hst
    · rename_i f args ts hop
      simp only [Option.map_eq_some_iff] at hst
      obtain ⟨⟨v, σ'⟩, hc, rfl⟩ := hst
      exact call_op hcall h o hop hc hK
    · simp only [Option.map_eq_some_iff] at hst
      obtain ⟨⟨v, σ', c'⟩, hc, rfl⟩ := hst
      exact step_op h o hc hK
  | false =>
    simp only [Bool.false_eq_true, if_false, Option.some.injEq] at hst ⊢
    subst hst
    obtain ⟨e1, e2, e3⟩ := put_keeps s o.dst .un
    exact hK M _ w ⟨by rw [e1]; exact h.mem, h.fr.put o.dst rel_un, by rw [e1, e2]; exact h.new, h.gl⟩ ⟨Ext.refl _ _ _, fun _ _ h => .inl h, fun r ob st g1 g2 => .inl ⟨ob, by rw [e1] at g1; exact g1, g2⟩, by rw [e1]; exact Nat.le_refl _, by rw [e2]; exact Nat.le_refl _⟩ (put_defers _ _ _)

/-! Within a round of a range over a function, and outside. -/
abbrev Fnc (r : Option Nat) : Fence := { Fence.wide with round := r }
theorem oper_in {P : Program} {r : Option Nat} {n0 : Nat} {o : Oper} {a : Act} {K : Act → World → Prop} {Q : Exit → Act → World → Prop} (hd : ∀ cl, o.op ≠ .defer cl) (h : o.wp P a w K Q) : o.wpIn (Fnc r) n0 P a w K Q := by
  refine ⟨fun _ _ => trivial, ?_⟩
  rw [show (Fnc r).round = r from rfl, Oper.semAt_eq _ _ _ hd]
  unfold Oper.wp at h
  revert h
  generalize (execOp a.eval o).run P w = res
  intro h
  cases res with
  | ok x w' =>
    cases x
    case value v => exact h
    case skip => exact h
    case defer d => exact h
    case enter f args =>
      have h2 := (callsIn_wide (n := n0 - 1)).2 h
      exact ⟨fun hh => (by cases hh), h2⟩
    case row row args =>
      refine ⟨fun hh => (by cases hh), fun c cs _ => ?_⟩
      obtain ⟨v, w1, r1, s1⟩ := h c cs
      exact ⟨v, w1, r1, stepsIn_wide.2 s1⟩
    all_goals exact h.elim
  | halt hh w' => cases hh <;> first | exact h | exact h.elim
theorem stepA_ndef {call : CallF} {ops : Array Oper} {o : Oper} {s s' : St} (hst : stepA C call p ops o s = some s') (hg : guardA ops s o.guard = some true) : ∀ cl, o.op ≠ .defer cl := by
  intro cl e
  simp only [stepA, hg, Option.bind_some, if_true, e] at hst
  cases hst
theorem stepA_in {call : CallF} (hcall : CallOk C call) {s s' : St} {a : Act} (h : SR C B0 p M s a w) (ops : Array Oper) (o : Oper) (hst : stepA C call p ops o s = some s') (r : Option Nat) (n0 : Nat)
    {K : Act → World → Prop} {Q : Exit → Act → World → Prop} (hK : ∀ M' a' w', SR C B0 p M' s' a' w' → Nx B0 p M M' s s' w w' → a'.defers = a.defers → K a' w') :
    if Region.wanted o (yielded ops a.tmps) then o.wpIn (Fnc r) n0 C.P a w K Q else (∀ f, o.about C.P w a.eval = some f → (Fnc r).fn f) ∧ K (a.put o.dst undef) w := by
  have h1 := stepA_sound (Q := Q) hcall h ops o hst hK
  split
  · rename_i hw
    rw [if_pos hw] at h1
    refine oper_in (stepA_ndef hst ?_) h1
    cases hg : guardA ops s o.guard with
    | none => simp [stepA, hg] at hst
    | some g => rw [guard_sound h.fr ops o hg] at hw; rw [hw]
  · rename_i hw
    rw [if_neg hw] at h1
    exact ⟨fun _ _ => trivial, h1⟩
theorem opsA_in {call : CallF} (hcall : CallOk C call) (ops : Array Oper) (r : Option Nat) (n0 : Nat) {Q : Exit → Act → World → Prop} : ∀ (l : List Oper) (s s' : St) (a : Act) (M : Mp) (w : World), SR C B0 p M s a w → opsA C call p ops l s = some s' →
    (∀ M' a' w', SR C B0 p M' s' a' w' → Nx B0 p M M' s s' w w' → a'.defers = a.defers → Q .normal a' w') → wpListIn (Fnc r) n0 C.P ops Q l a w := by
  intro l
  induction l with
  | nil =>
    intro s s' a M w h hs hQ
    simp [opsA] at hs; subst hs
    exact hQ M a w h (Nx.refl s) rfl
  | cons o l ih =>
    intro s s' a M w h hs hQ
    simp only [opsA, Option.bind_eq_some_iff] at hs
    obtain ⟨s1, hs1, hs⟩ := hs
    exact stepA_in (Q := Q) hcall h ops o hs1 r n0 (K := wpListIn (Fnc r) n0 C.P ops Q l) (fun M' a' w' h' hn hd => ih s1 s' a' M' w' h' hs fun M2 a2 w2 h2 hn2 hd2 => hQ M2 a2 w2 h2 (hn.trans hn2) (hd2.trans hd))

def Ex.to : Ex → Exit
  | .normal => .normal
  | .exit id => .exit id
  | .ret => .ret
def DrawOk (C : Cfg) : Prop := ∀ (call : CallF), CallOk C call → ∀ (B0 : Nat) (p : List Nat) (g id : Nat) (ops : Array Oper) (s s' : St) (a : Act) (M : Mp) (w : World), SR C B0 p M s a w → okN C g id ops = true → drawN C call g id p ops s = some s' →
  ∀ (r : Option Nat) (n0 : Nat), (Code.region id ops true).wpIn (Fnc r) n0 C.P (fun e a' w' => e = .normal ∧ ∃ M', SR C B0 p M' s' a' w' ∧ Nx B0 p M M' s s' w w' ∧ a'.defers = a.defers) a w

def RegIn (id : Nat) (ops : Array Oper) : Code → Prop
  | .region i o d => i = id ∧ o = ops ∧ d = true
  | .seq a b | .cond _ a b | .rangeFunc _ _ a b => RegIn id ops a ∨ RegIn id ops b
  | .block _ a | .loop a | .scope a => RegIn id ops a
  | _ => False
def HookOk (C : Cfg) : Prop := ∀ (g id : Nat) (h : List Nat → St → Option St), C.hook g id = some h → ∀ (fn : Func) (c0 : Code) (ops : Array Oper), C.P.funcs[g]? = some fn → fn.body = some c0 → RegIn id ops c0 →
  ∀ (B0 : Nat) (p : List Nat) (s s' : St) (a : Act) (M : Mp) (w : World), SR C B0 p M s a w → h p s = some s' →
  (Code.region id ops true).wp C.P (fun e a' w' => e = .normal ∧ ∃ M', SR C B0 p M' s' a' w' ∧ Nx B0 p M M' s s' w w' ∧ a'.defers = a.defers) a w
theorem hook_none {C : Cfg} (h : ∀ g id, C.hook g id = none) : HookOk C := fun g id q hq => by rw [h] at hq; cases hq

theorem codeR_sound {call : CallF} (hcall : CallOk C call) (hdraw : DrawOk C) (g n : Nat) (r : Option Nat) (n0 : Nat) : ∀ (c : Code) (s s' : St) (e : Ex) (a : Act) (M : Mp) (w : World), noR C g c = true → regsOk C g c = true → SR C B0 p M s a w → codeA C call g p n c s = some (e, s') →
    c.wpIn (Fnc r) n0 C.P (fun e' a' w' => e' = e.to ∧ ∃ M', SR C B0 p M' s' a' w' ∧ Nx B0 p M M' s s' w w' ∧ a'.defers = a.defers) a w := by
  intro c
  induction c with
  | skip =>
    intro s s' e a M w hin hrg h hc
    simp [codeA] at hc; obtain ⟨rfl, rfl⟩ := hc
    exact wpIn_skip ⟨rfl, M, h, Nx.refl s, rfl⟩
  | label l =>
    intro s s' e a M w hin hrg h hc
    simp [codeA] at hc; obtain ⟨rfl, rfl⟩ := hc
    exact wpIn_label ⟨rfl, M, h, Nx.refl s, rfl⟩
  | region id ops draw =>
    intro s s' e a M w hin hrg h hc
    simp only [codeA, Option.map_eq_some_iff, Prod.mk.injEq] at hc
    obtain ⟨s1, hs1, rfl, rfl⟩ := hc
    cases draw with
    | false =>
      simp only [Bool.false_eq_true, if_false] at hs1
      exact wpIn_region_list (opsA_in hcall ops r n0 _ s s1 a M w h hs1 fun M' a' w' h' hn hd => ⟨rfl, M', h', hn, hd⟩)
    | true =>
      simp only [if_true] at hs1
      unfold drawA at hs1
      split at hs1
      · rename_i q hq
        simp [noR, hq] at hin
      · rename_i hq
        exact hdraw call hcall B0 p g id ops s s1 a M w h (by simpa [regsOk, hq] using hrg) hs1 r n0
  | seq c1 c2 ih1 ih2 =>
    intro s s' e a M w hin hrg h hc
    simp only [codeA, Option.bind_eq_some_iff] at hc
    obtain ⟨⟨e1, s1⟩, h1, hc⟩ := hc
    simp only [noR, Bool.and_eq_true] at hin
    simp only [regsOk, Bool.and_eq_true] at hrg
    refine wpIn_seq (wpIn_mono (ih1 s s1 e1 a M w hin.1 hrg.1 h h1) ?_)
    rintro e' a' w' ⟨rfl, M', h', hn, hd⟩
    cases e1 with
    | normal =>
      simp only at hc
      refine wpIn_mono (ih2 s1 s' e a' M' w' hin.2 hrg.2 h' hc) ?_
      rintro e' a2 w2 ⟨rfl, M2, h2, hn2, hd2⟩
      exact ⟨rfl, M2, h2, hn.trans hn2, hd2.trans hd⟩
    | exit id => simp at hc; obtain ⟨rfl, rfl⟩ := hc; exact ⟨rfl, M', h', hn, hd⟩
    | ret => simp at hc; obtain ⟨rfl, rfl⟩ := hc; exact ⟨rfl, M', h', hn, hd⟩
  | cond k c1 c2 ih1 ih2 =>
    intro s s' e a M w hin hrg h hc
    simp only [codeA] at hc
    simp only [noR, Bool.and_eq_true] at hin
    simp only [regsOk, Bool.and_eq_true] at hrg
    split at hc
    · rename_i x hk
      have hkr := ev_rel h.gl h.fr k
      rw [hk] at hkr
      refine wpIn_cond hkr.b_inv ?_
      cases x
      · exact ih2 s s' e a M w hin.2 hrg.2 h (by simpa using hc)
      · exact ih1 s s' e a M w hin.1 hrg.1 h (by simpa using hc)
    · simp at hc
  | block id c ih =>
    intro s s' e a M w hin hrg h hc
    simp only [codeA, Option.map_eq_some_iff, Prod.mk.injEq] at hc
    obtain ⟨⟨e1, s1⟩, h1, rfl, rfl⟩ := hc
    refine wpIn_block (wpIn_mono (ih s s1 e1 a M w (by simpa [noR] using hin) (by simpa [regsOk] using hrg) h h1) ?_)
    rintro e' a' w' ⟨rfl, M', h', hn, hd⟩
    cases e1 with
    | normal => exact ⟨by simp [Ex.to], M', h', hn, hd⟩
    | exit id' =>
      by_cases hid : id' = id
      · subst hid; simp only [Exit.inBlock, Ex.to, if_true]; exact ⟨trivial, M', h', hn, hd⟩
      · have : ¬ (Ex.exit id' = Ex.exit id) := by intro e; injection e; contradiction
        simp only [Exit.inBlock, Ex.to, if_neg hid, if_neg this]; exact ⟨trivial, M', h', hn, hd⟩
    | ret => exact ⟨by simp [Ex.to], M', h', hn, hd⟩
  | loop c ih =>
    intro s s' e a M w hin hrg h hc
    simp only [codeA] at hc
    refine wpIn_loop_rounds n ?_
    have key : ∀ (Q : Exit → Act → World → Prop) (m : Nat) (s1 : St) (a1 : Act) (M1 : Mp) (w1 : World), SR C B0 p M1 s1 a1 w1 → loopA (codeA C call g p n c) m s1 = some (e, s') →
        (∀ M2 a2 w2, SR C B0 p M2 s' a2 w2 → Nx B0 p M1 M2 s1 s' w1 w2 → a2.defers = a1.defers → Q e.to a2 w2) → Code.roundsIn (Fnc r) n0 C.P c Q m a1 w1 := by
      intro Q m
      induction m with
      | zero => intro s1 a1 M1 w1 h1 hl; simp [loopA] at hl
      | succ m ihm =>
        intro s1 a1 M1 w1 h1 hl hQ
        simp only [loopA, Option.bind_eq_some_iff] at hl
        obtain ⟨⟨e2, s2⟩, h2, hl⟩ := hl
        rw [roundsIn_succ]
        refine wpIn_mono (ih s1 s2 e2 a1 M1 w1 (by simpa [noR] using hin) (by simpa [regsOk] using hrg) h1 h2) ?_
        rintro e' a' w' ⟨rfl, M', h', hn, hd⟩
        cases e2 with
        | normal =>
          simp only at hl
          exact ihm s2 a' M' w' h' hl fun M2 a2 w2 h2 hn2 hd2 => hQ M2 a2 w2 h2 (hn.trans hn2) (hd2.trans hd)
        | exit id => simp at hl; obtain ⟨rfl, rfl⟩ := hl; exact hQ M' a' w' h' hn hd
        | ret => simp at hl; obtain ⟨rfl, rfl⟩ := hl; exact hQ M' a' w' h' hn hd
    exact key _ n s a M w h hc fun M2 a2 w2 h2 hn2 hd2 => ⟨rfl, M2, h2, hn2, hd2⟩
  | rangeFunc f ps c1 c2 ih1 ih2 => intro s s' e a M w hin hrg h hc; simp [noR] at hin
  | exit id =>
    intro s s' e a M w hin hrg h hc
    simp [codeA] at hc; obtain ⟨rfl, rfl⟩ := hc
    exact wpIn_exit ⟨rfl, M, h, Nx.refl s, rfl⟩
  | scope c ih => intro s s' e a M w hin hrg h hc; simp [noR] at hin
  | goto l => intro s s' e a M w hin hrg h hc; simp [codeA] at hc
  | ret =>
    intro s s' e a M w hin hrg h hc
    simp [codeA] at hc; obtain ⟨rfl, rfl⟩ := hc
    exact wpIn_ret ⟨rfl, M, h, Nx.refl s, rfl⟩
  | refuse why => intro s s' e a M w hin hrg h hc; simp [codeA] at hc

/-! A block that holds no cells may turn. -/
mutual
theorem Rel.quiet (hk : ∀ a y, w.cell? a = some y → w'.cell? a = some y) : ∀ {v : V} {y : Value}, Rel M w v y → Rel M w' v y
  | _, _, .bad y => .bad y
  | _, _, .b x => .b x
  | _, _, .i k n => .i k n
  | _, _, .s x => .s x
  | _, _, .nilp => .nilp
  | _, _, .nils => .nils
  | _, _, .nilf => .nilf
  | _, _, .nili => .nili
  | _, _, .nilm => .nilm
  | _, _, .ptr r st off b n h => .ptr r st off b n h
  | _, _, .iptr cs a vs h1 h2 h3 h4 => .iptr cs a vs h1 h2 (RelL.quiet hk h3) (fun j y hy => hk _ _ (h4 j y hy))
  | _, _, .sl r st off len es cap b n k h a1 a2 a3 => .sl r st off len es cap b n k h a1 a2 a3
  | _, _, .arr cs len clip a vs k h1 h2 h3 h4 h5 h6 => .arr cs len clip a vs k h1 h2 (RelL.quiet hk h3) (fun j y hy => hk _ _ (h4 j y hy)) h5 h6
  | _, _, .agg cs vs h1 h2 => .agg cs vs h1 (RelL.quiet hk h2)
  | _, _, .fn f fi ca us vs h1 h2 => .fn f fi ca us vs (RelL.quiet hk h1) (RelL.quiet hk h2)
  | _, _, .map r st b n h => .map r st b n h
  | _, _, .iface t v y h => .iface t v y (Rel.quiet hk h)
  | _, _, .tup xs vs h => .tup xs vs (RelL.quiet hk h)
theorem RelL.quiet (hk : ∀ a y, w.cell? a = some y → w'.cell? a = some y) : ∀ {v : List V} {y : List Value}, RelL M w v y → RelL M w' v y
  | _, _, .nil => .nil
  | _, _, .cons x y xs ys h hs => .cons x y xs ys (Rel.quiet hk h) (RelL.quiet hk hs)
end
theorem cell_putObj {l : Nat} {o o' : Obj} (hl : w.heap[l]? = some o) (ho : o.isCells = false) (a : Addr) (y : Value) (h : w.cell? a = some y) : (w.putObj l o').cell? a = some y := by
  have hne : a.block ≠ l := by
    rintro rfl
    unfold World.cell? at h
    rw [hl] at h
    cases o <;> simp [Obj.isCells] at ho h
  rw [World.cell?_of_block (w := w) (World.putObj_heap_other hne)]; exact h
theorem ObjRel.putObj {l : Nat} {o o' : Obj} (hl : w.heap[l]? = some o) (ho : o.isCells = false) {x : O} (h : ObjRel M w x) (hn : ∀ st b n, x.st = some st → M.m st = some (b, n) → b ≠ l) : ObjRel M (w.putObj l o') x := by
  have q := cell_putObj (o' := o') hl ho
  cases x with
  | dead => trivial
  | cells st cs =>
    intro b n hb
    obtain ⟨h1, h2, h3, h4⟩ := h b n hb
    have hk : (w.putObj l o').heap[b]? = w.heap[b]? := World.putObj_heap_other (hn st b n rfl hb)
    refine ⟨h1, h2, fun j hj => ?_, fun j x hx => ?_⟩
    · obtain ⟨y, hy, hf, h5, h6⟩ := h3 j hj
      exact ⟨y, q _ _ hy, by rw [World.frozen?_of_block (w := w) hk]; exact hf, h5, okMark_of hk h6⟩
    · obtain ⟨y, hy, hr⟩ := h4 j x hx
      exact ⟨y, q _ _ hy, hr.quiet q⟩
  | map st kvs =>
    intro b n hb
    obtain ⟨es, cl, h1, h2, h3⟩ := h b n hb
    refine ⟨es, cl, by rw [World.putObj_heap_other (hn st b n rfl hb)]; exact h1, h2, fun j k v hj => ?_⟩
    obtain ⟨e', g1, g2, g3⟩ := h3 j k v hj
    exact ⟨e', g1, g2.quiet q, g3.quiet q⟩
theorem MR.putObj {l : Nat} {o o' : Obj} {σ : List O} (h : MR B0 M σ w) (hl : w.heap[l]? = some o) (ho : o.isCells = false) (hF : M.F l) : MR B0 M σ (w.putObj l o') :=
  ⟨⟨h.sep.apart, h.sep.live, by simpa using h.sep.lt, by simpa using h.sep.flt, by simpa using h.sep.base⟩,
    fun r x hx => (h.obj r x hx).putObj hl ho fun st b n hs hm e => by subst e; exact h.sep.live r x st _ n hx hs hm hF⟩
theorem GR.putObj {l : Nat} {o o' : Obj} (h : GR C M w) (hl : w.heap[l]? = some o) (ho : o.isCells = false) : GR C M (w.putObj l o') :=
  ⟨fun g cs hg => (h.glob g cs hg).quiet (cell_putObj hl ho)⟩
theorem FR.putObj {l : Nat} {o o' : Obj} {s : St} {a : Act} (h : FR M w s a) (hl : w.heap[l]? = some o) (ho : o.isCells = false) : FR M (w.putObj l o') s a :=
  ⟨h.size, fun d => (h.tmp d).quiet (cell_putObj hl ho)⟩
theorem SR.putObj {l : Nat} {o o' : Obj} {s : St} {a : Act} (h : SR C B0 p M s a w) (hl : w.heap[l]? = some o) (ho : o.isCells = false) (hF : M.F l) : SR C B0 p M s a (w.putObj l o') :=
  ⟨h.mem.putObj hl ho hF, h.fr.putObj hl ho, h.new, h.gl.putObj hl ho⟩
theorem Nx.putObj {l : Nat} {o' : Obj} {s s' : St} (h : Nx B0 p M M' s s' w w') (hl : w'.heap[l]?.isSome) (hB : B0 ≤ l) (hF : ¬ M.F l) : Nx B0 p M M' s s' w (w'.putObj l o') := by
  have hlt : l < w'.heap.size := by
    obtain ⟨x, hx⟩ := Option.isSome_iff_exists.1 hl
    exact (Array.getElem?_eq_some_iff.1 hx).1
  exact ⟨⟨h.ext.m, h.ext.F, fun b hb => (World.putObj_heap_other (by rintro rfl; exact hF hb)).trans (h.ext.keep b hb),
    h.ext.below.grown (grownBy_putObj' w' l o') (by omega) (fun k e => by cases e; exact hB)⟩, h.names, h.onames, h.len, h.cc⟩
theorem Ext.grown {σ : List O} (h : MR B0 M σ w) (hg : w.grownBy w' none) : Ext B0 M M w w' :=
  ⟨fun _ _ h => h, fun _ h => h, fun b hb => hg.block b (h.sep.flt b hb) (by simp), (Below.refl B0 w).grown hg h.sep.base (fun k e => by cases e)⟩
theorem MR.grown {σ : List O} (h : MR B0 M σ w) (hg : w.grownBy w' none) : MR B0 M σ w' :=
  ⟨⟨h.sep.apart, h.sep.live, fun st b n hb => ⟨Nat.lt_of_lt_of_le (h.sep.lt st b n hb).1 hg.size, (h.sep.lt st b n hb).2⟩, fun b hb => Nat.lt_of_lt_of_le (h.sep.flt b hb) hg.size, Nat.le_trans h.sep.base hg.size⟩,
    fun r x hx => (h.obj r x hx).mono (Ext.grown h hg) (fun _ _ => rfl) fun st b n hs hb => hg.block b (h.sep.lt st b n hb).1 (by simp)⟩

def IterOk (C : Cfg) : Prop := ∀ gf it, C.iter gf = some it → ∀ cap σ rows yss, it cap σ = some (rows, yss) →
  (∀ args w, (callFunc gf args).run C.P w = .ok (.enter gf args) w) ∧
  ∀ (l n0 B0 : Nat) (lb : List Value) (J : Nat → Mp → World → Prop) (Jx : World → Prop) (M0 : Mp) (W : World),
    (∀ k M w, J k M w → GR C M w ∧ ∃ σk p c, MR B0 M σk w ∧ FrC M σk p c ∧ RelL M w cap lb ∧ ∀ r ∈ rows, σk[r]? = σ[r]?) →
    (∀ k M w w', J k M w → w.grownBy w' none → J k M w') → (∀ w w', Jx w → w.grownBy w' none → Jx w') →
    (∀ k vs M w ys, J k M w → yss[k]? = some vs → RelL M w vs ys → YieldAt Fence.wide n0 C.P l ys.toArray w fun e w' => (e = .returned (.bool true) ∧ ∃ M', J (k + 1) M' w') ∨ (e = .returned (.bool false) ∧ Jx w')) →
    J 0 M0 W → CallsIn Fence.wide (n0 + 1) C.P gf (#[.func (.yield l) #[] #[]] ++ lb.toArray) W fun e W' => (∃ v, e = .returned v) ∧ ((∃ M', J yss.length M' W') ∨ Jx W')
theorem iter_none {C : Cfg} (h : ∀ g, C.iter g = none) : IterOk C := fun gf it hi => by rw [h] at hi; cases hi
def Mk (lo : Nat) (M : Mp) (a : Act) (w : World) : Prop := a.defers.Nodup ∧ ∀ d ∈ a.defers, ∃ D, d = { target := .collected D, args := #[] } ∧ lo ≤ D ∧ M.F D ∧ w.heap[D]? = some (.deferred (some []))
theorem Mk.mono {lo : Nat} {a a' : Act} (h : Mk lo M a w) (e : Ext B0 M M' w w') (hd : a'.defers = a.defers) : Mk lo M' a' w' := by
  refine ⟨by rw [hd]; exact h.1, fun d hdm => ?_⟩
  rw [hd] at hdm
  obtain ⟨D, h1, h2, h3, h4⟩ := h.2 d hdm
  exact ⟨D, h1, h2, e.F D h3, (e.keep D h3).trans h4⟩
theorem binds_rel : ∀ {l : List (Nat × V)} {m : List (Nat × Value)} {s : St} {a : Act}, FR M w s a → l.map (·.1) = m.map (·.1) → RelL M w (l.map (·.2)) (m.map (·.2)) →
    FR M w (l.foldl (fun s x => s.put (some x.1) x.2) s) { a with tmps := m.foldl (fun t x => t.setIfInBounds x.1 x.2) a.tmps }
  | [], [], s, a, h, _, _ => h
  | (i, v) :: l, (j, y) :: m, s, a, h, he, hr => by
    simp only [List.map_cons, List.cons.injEq] at he hr
    obtain ⟨rfl, he⟩ := he
    cases hr with
    | cons _ _ _ _ h1 h2 =>
      have := binds_rel (a := a.put (some i) y) (h.put (some i) h1) he h2
      exact this
  | [], _ :: _, s, a, h, he, _ => by simp at he
  | _ :: _, [], s, a, h, he, _ => by simp at he
theorem binds_keeps : ∀ (l : List (Nat × V)) (s : St), (l.foldl (fun s x => s.put (some x.1) x.2) s).σ = s.σ ∧ (l.foldl (fun s x => s.put (some x.1) x.2) s).c = s.c
  | [], s => ⟨rfl, rfl⟩
  | x :: l, s => by
    obtain ⟨h1, h2⟩ := binds_keeps l (s.put (some x.1) x.2)
    obtain ⟨e1, e2, _⟩ := put_keeps s (some x.1) x.2
    exact ⟨h1.trans e1, h2.trans e2⟩
def Ex.code : Ex → Code
  | .normal => .skip
  | .exit id => .exit id
  | .ret => .ret
theorem Nx.of {s1 s2 t : St} (h : Nx B0 p M M' s1 t w w') (h1 : s1.σ = s2.σ) (h2 : s1.c = s2.c) : Nx B0 p M M' s2 t w w' :=
  ⟨h.ext, by rw [← h2]; exact h.names, by rw [← h1, ← h2]; exact h.onames, by rw [← h1]; exact h.len, by rw [← h2]; exact h.cc⟩
theorem Nx.to {s t1 t2 : St} (h : Nx B0 p M M' s t1 w w') (h1 : t1.σ = t2.σ) (h2 : t1.c = t2.c) : Nx B0 p M M' s t2 w w' :=
  ⟨h.ext, h.names, by rw [← h1]; exact h.onames, by rw [← h1]; exact h.len, by rw [← h2]; exact h.cc⟩
theorem Nx.grown {s t : St} {w2 : World} (h : Nx B0 p M M' s t w w') (hm : MR B0 M' t.σ w') (hg : w'.grownBy w2 none) : Nx B0 p M M' s t w w2 :=
  ⟨h.ext.trans (Ext.grown hm hg), h.names, h.onames, h.len, h.cc⟩
theorem range_sound {call : CallF} (hcall : CallOk C call) (hdraw : DrawOk C) (hiter : IterOk C) (g n : Nat) {f : Operand} {ps : Array Tmp} {c1 c2 : Code} {s s' : St} {e : Ex} {a : Act} (hr1 : regsOk C g c1 = true) (hr2 : regsOk C g c2 = true)
    (h : SR C B0 p M s a w) (lo : Nat) (hlo : lo ≤ w.heap.size) (hmk : Mk lo M a w) (hc : codeA C call g p n (.rangeFunc f ps c1 c2) s = some (e, s')) :
    (Code.rangeFunc f ps c1 c2).wp C.P (fun e' a' w' => e' = e.to ∧ ∃ M', SR C B0 p M' s' a' w' ∧ Nx B0 p M M' s s' w w' ∧ Mk lo M' a' w') a w := by
  simp only [codeA] at hc
  split at hc
  case isFalse => cases hc
  rename_i hnr
  simp only [Bool.and_eq_true] at hnr
  obtain ⟨hn1, hn2⟩ := hnr
  split at hc
  case h_2 => cases hc
  rename_i gf cap hf
  split at hc
  case h_2 => cases hc
  rename_i it hit
  simp only [Option.bind_eq_some_iff] at hc
  obtain ⟨⟨rows, yss⟩, hy, hc⟩ := hc
  simp only at hc
  have hfr := ev_rel h.gl h.fr f
  rw [hf] at hfr
  obtain ⟨us, lb, hfv, hus, hlb⟩ := hfr.fn_inv
  cases hus
  obtain ⟨heg, hlaw⟩ := hiter gf it hit cap s.σ rows yss hy
  refine wpIn_wide.1 (wpIn_rangeFunc (F := Fence.wide) (n := 2) ?_)
  intro fn hfn
  obtain ⟨D, hD⟩ : ∃ D, D = w.heap.size := ⟨_, rfl⟩
  obtain ⟨rec, hrec⟩ : ∃ rec : LoopState → Option Code → Loop, rec = fun st pe => { state := st, pending := pe, fn, tmps := a.tmps, params := ps, assign := c1, body := c2, defers := w.heap.size } := ⟨_, rfl⟩
  obtain ⟨W1, hW1⟩ : ∃ W1, (w.alloc (.deferred (some []))).alloc (.loop (rec .ready none)) = W1 := ⟨_, rfl⟩
  have hg1 : w.grownBy W1 none := by
    rw [← hW1]
    have e1 := World.grownBy_alloc w (.deferred (some [])) none
    have e2 := World.grownBy_alloc (w.alloc (.deferred (some []))) (.loop (rec .ready none)) none
    exact ⟨e2.os.trans e1.os, e2.tape.trans e1.tape, e2.output.trans e1.output, Nat.le_trans e1.size e2.size, fun k hk hn => (e2.block k (Nat.lt_of_lt_of_le hk e1.size) hn).trans (e1.block k hk hn)⟩
  have hsz1 : W1.heap.size = D + 2 := by rw [← hW1, hD]; simp
  have hL1 : W1.heap[D + 1]? = some (.loop (rec .ready none)) := by
    rw [← hW1, hD]; have := World.alloc_heap_new (w.alloc (.deferred (some []))) (.loop (rec .ready none)); rwa [World.size_alloc] at this
  have hK1 : W1.heap[D]? = some (.deferred (some [])) := by
    rw [← hW1, hD]; exact (Below.heap_alloc _ _ _ (by simp)).trans (World.alloc_heap_new w _)
  have hMl : ¬ M.F (D + 1) := fun hb => by have := h.mem.sep.flt _ hb; omega
  have hMD : ¬ M.F D := fun hb => by have := h.mem.sep.flt _ hb; omega
  have hB : B0 ≤ D + 1 := by have := h.mem.sep.base; omega
  refine ⟨D + 1, [{ target := .collected D, args := #[] }], W1, { target := .fn (.func gf) lb.toArray, args := #[.func (.yield (D + 1)) #[] #[]] }, W1, gf, #[.func (.yield (D + 1)) #[] #[]] ++ lb.toArray, W1, ?_, ?_, fun _ _ => trivial, ?_, fun hh => (by cases hh), ?_⟩
  · rw [← hW1, hrec, hD]; exact run_enterLoop_outer _ _ _ _ _
  · simp only [resolve, hfv]
    simp [go_sem]
  · simp [invoke, go_sem, heg]
  have hend : ∀ {s1 : St} {M1 : Mp} {W : World} (jmp : Option Code), Nx B0 p M M1 s s1 w W → MR B0 M1 s1.σ W → FrC M1 s1.σ p s1.c → s1.t = s.t → s1.nt = s.nt → M1.F D → M1.F (D + 1) → W.heap[D]? = some (.deferred (some [])) → (∃ r, W.heap[D + 1]? = some (.loop r)) → ∀ o,
      SR C B0 p M1 s1 { a with defers := [{ target := .collected D, args := #[] }] ++ a.defers } (W.putObj (D + 1) (.loop o)) ∧ Nx B0 p M M1 s s1 w (W.putObj (D + 1) (.loop o)) ∧ Mk lo M1 { a with defers := [{ target := .collected D, args := #[] }] ++ a.defers } (W.putObj (D + 1) (.loop o)) := by
    intro s1 M1 W jmp hn hm hfc ht hnt hF hFl hK hl o
    obtain ⟨r, hl⟩ := hl
    have hfr : FR M1 W s1 a := by
      have := h.fr.mono hn.ext
      exact ⟨by rw [hnt]; exact this.size, fun d => by rw [ht]; exact this.tmp d⟩
    refine ⟨⟨hm.putObj hl rfl hFl, ?_, hfc, (h.gl.mono hn.ext).putObj hl rfl⟩, hn.putObj (by rw [hl]; rfl) hB hMl, ?_⟩
    · have := hfr.putObj (o' := .loop o) hl rfl
      exact ⟨this.size, this.tmp⟩
    · refine ⟨List.nodup_cons.2 ⟨fun hd => ?_, hmk.1⟩, fun d hd => ?_⟩
      · obtain ⟨D', e1, e2, e3, e4⟩ := hmk.2 _ hd
        have hlt := h.mem.sep.flt D' e3
        simp only [Deferred.mk.injEq, Target.collected.injEq] at e1
        omega
      simp only [List.cons_append, List.nil_append, List.mem_cons] at hd
      rcases hd with rfl | hd
      · exact ⟨D, rfl, by omega, hF, (World.putObj_heap_other (by omega)).trans hK⟩
      · obtain ⟨D', e1, e2, e3, e4⟩ := hmk.2 d hd
        have hlt := h.mem.sep.flt D' e3
        exact ⟨D', e1, e2, hn.ext.F D' e3, (World.putObj_heap_other (by omega)).trans ((hn.ext.keep D' e3).trans e4)⟩
  refine (hlaw (D + 1) 0 B0 lb
    (fun k Mk W => ∃ sk : St, rangeA (codeA C call g p n c1) (codeA C call g p n c2) ps.toList rows s.σ ⟨s.t, s.nt, [], 0⟩ (yss.drop k) sk = some (e, s') ∧ sk.t = s.t ∧ sk.nt = s.nt ∧ MR B0 Mk sk.σ W ∧ FrC Mk sk.σ p sk.c ∧ Nx B0 p M Mk s sk w W ∧
      (∀ r ∈ rows, sk.σ[r]? = s.σ[r]?) ∧ Mk.F D ∧ Mk.F (D + 1) ∧ W.heap[D + 1]? = some (.loop (rec .ready none)) ∧ W.heap[D]? = some (.deferred (some [])))
    (fun W => e ≠ .normal ∧ ∃ Mx, MR B0 Mx s'.σ W ∧ FrC Mx s'.σ p s'.c ∧ Nx B0 p M Mx s s' w W ∧ s'.t = s.t ∧ s'.nt = s.nt ∧ Mx.F D ∧ Mx.F (D + 1) ∧ W.heap[D + 1]? = some (.loop (rec .done (some e.code))) ∧ W.heap[D]? = some (.deferred (some [])))
    ⟨M.m, fun b => M.F b ∨ b = D ∨ b = D + 1⟩ W1 ?_ ?_ ?_ ?_ ?_).mono ?_
  · rintro k Mk W ⟨sk, _, _, _, hm, hfc, hn, hrows, _⟩
    exact ⟨h.gl.mono hn.ext, sk.σ, p, sk.c, hm, hfc, hlb.mono hn.ext, hrows⟩
  · rintro k Mk W W' ⟨sk, h1, h2, h3, hm, h4, hn, h5, h6, h7, h8, h9⟩ hg
    exact ⟨sk, h1, h2, h3, hm.grown hg, h4, hn.grown hm hg, h5, h6, h7, (hg.block _ (Array.getElem?_eq_some_iff.1 h8).1 (by simp)).trans h8, (hg.block _ (Array.getElem?_eq_some_iff.1 h9).1 (by simp)).trans h9⟩
  · rintro W W' ⟨h0, Mx, hm, h4, hn, h2, h3, h6, h7, h8, h9⟩ hg
    exact ⟨h0, Mx, hm.grown hg, h4, hn.grown hm hg, h2, h3, h6, h7, (hg.block _ (Array.getElem?_eq_some_iff.1 h8).1 (by simp)).trans h8, (hg.block _ (Array.getElem?_eq_some_iff.1 h9).1 (by simp)).trans h9⟩
  · -- a round
    rintro k vs Mk W ys ⟨sk, hra, ht, hnt, hm, hfc, hn, hrows, hFD, hFl, hl, hK⟩ hvs hys
    obtain ⟨hklt, hkv⟩ := List.getElem?_eq_some_iff.1 hvs
    rw [List.drop_eq_getElem_cons hklt, hkv] at hra
    simp only [rangeA] at hra
    split at hra
    case isFalse => cases hra
    rename_i hlen
    simp only [Option.bind_eq_some_iff] at hra
    obtain ⟨⟨e1, s1⟩, hfa, hra⟩ := hra
    have hysl := hys.length
    have hyd := run_yield (P := C.P) (args := ys.toArray) hl (by rw [hrec]; simp; rw [← hysl, hlen]; simp)
    rw [hrec] at hyd
    refine ⟨fn, _, c1, c2, hyd, roundIn_of_wpIn hfn ?_⟩
    clear hyd
    obtain ⟨k1, k2⟩ := binds_keeps (ps.toList.zip vs) ⟨s.t, s.nt, sk.σ, sk.c⟩
    have hfr0 : FR Mk W ⟨s.t, s.nt, sk.σ, sk.c⟩ { tmps := a.tmps, defers := [] } := by
      have := h.fr.mono hn.ext
      exact ⟨this.size, this.tmp⟩
    have hb := binds_rel (l := ps.toList.zip vs) (m := ps.toList.zip ys) hfr0
      (by rw [List.map_fst_zip (by omega), List.map_fst_zip (by omega)]) (by rw [List.map_snd_zip (by omega), List.map_snd_zip (by omega)]; exact hys)
    have hta : (ps.zip ys.toArray).foldl (fun tmps (x : Tmp × Value) => tmps.setIfInBounds x.1 x.2) a.tmps = (ps.toList.zip ys).foldl (fun t x => t.setIfInBounds x.1 x.2) a.tmps := by
      rw [← Array.foldl_toList, Array.toList_zip]
    have hsr : SR C B0 p Mk ((ps.toList.zip vs).foldl (fun s x => s.put (some x.1) x.2) ⟨s.t, s.nt, sk.σ, sk.c⟩) { tmps := (ps.zip ys.toArray).foldl (fun tmps (x : Tmp × Value) => tmps.setIfInBounds x.1 x.2) a.tmps, defers := [] } W := by
      rw [hta]
      exact ⟨by rw [k1]; exact hm, hb, by rw [k1, k2]; exact hfc, h.gl.mono hn.ext⟩
    refine wpIn_mono (codeR_sound hcall hdraw g n (some (D + 1)) 0 c1 _ s1 e1 _ Mk W hn1 hr1 hsr hfa) ?_
    rintro e' a1 W1' ⟨rfl, M1, h1, n1, d1⟩
    cases e1 with
    | exit id => simp at hra
    | ret => simp at hra
    | normal =>
    simp only [Option.bind_eq_some_iff] at hra
    obtain ⟨⟨e2, s2⟩, hfb, hra⟩ := hra
    have hl1 : W1'.heap[D + 1]? = some (.loop (rec .ready none)) := (n1.ext.keep _ hFl).trans hl
    refine ⟨_, run_beginRound hl1 (by rw [hrec]), ?_⟩
    have n1' : Nx B0 p M M1 s s1 w W1' := hn.trans (n1.of k1 k2)
    have h2 := h1.putObj (o' := .loop { rec .ready none with state := .busy }) hl1 rfl (n1.ext.F _ hFl)
    have n2' := n1'.putObj (o' := .loop { rec .ready none with state := .busy }) (by rw [hl1]; rfl) hB hMl
    refine wpIn_mono (codeR_sound hcall hdraw g n (some (D + 1)) 0 c2 s1 s2 e2 a1 M1 _ hn2 hr2 h2 hfb) ?_
    rintro e' a2 W3 ⟨rfl, M2, h3, n3, d3⟩
    have n4 := n2'.trans n3
    have hF1 := n3.ext.F _ (n1.ext.F _ hFl)
    have hFD1 := n3.ext.F _ (n1.ext.F _ hFD)
    have hl3 : W3.heap[D + 1]? = some (.loop { rec .ready none with state := .busy }) := (n3.ext.keep _ (n1.ext.F _ hFl)).trans (World.putObj_heap_same (Array.getElem?_eq_some_iff.1 hl1).1)
    have hK3 : W3.heap[D]? = some (.deferred (some [])) := (n3.ext.keep _ (n1.ext.F _ hFD)).trans ((World.putObj_heap_other (by omega)).trans ((n1.ext.keep _ hFD).trans hK))
    have hlt3 := (Array.getElem?_eq_some_iff.1 hl3).1
    have hend3 : ∀ jmp : Option Code, (Instr.endRound (D + 1) jmp).run C.P W3 = .ok (.bool jmp.isNone) (W3.putObj (D + 1) (.loop (rec (if jmp.isNone then .ready else .done) jmp))) := fun jmp => by
      have := run_endRound (P := C.P) jmp hl3
      rw [hrec] at this ⊢
      exact this
    cases e2 with
    | normal =>
      simp only at hra
      split at hra
      case isFalse => cases hra
      rename_i hall
      rw [List.all_eq_true] at hall
      refine ⟨_, _, hend3 none, .inl ⟨rfl, M2, ⟨s.t, s.nt, s2.σ, s2.c⟩, hra, rfl, rfl, h3.mem.putObj hl3 rfl hF1, h3.new, ?_, fun r hr => O.eqb_eq (hall r hr), hFD1, hF1, World.putObj_heap_same hlt3, (World.putObj_heap_other (by omega)).trans hK3⟩⟩
      exact (n4.putObj (by rw [hl3]; rfl) hB hMl).to rfl rfl
    | exit id =>
      simp only [Option.some.injEq, Prod.mk.injEq] at hra
      obtain ⟨rfl, rfl⟩ := hra
      refine ⟨_, _, hend3 (some (.exit id)), .inr ⟨rfl, by simp, M2, h3.mem.putObj hl3 rfl hF1, h3.new, ?_, rfl, rfl, hFD1, hF1, World.putObj_heap_same hlt3, (World.putObj_heap_other (by omega)).trans hK3⟩⟩
      exact (n4.putObj (by rw [hl3]; rfl) hB hMl).to rfl rfl
    | ret =>
      simp only [Option.some.injEq, Prod.mk.injEq] at hra
      obtain ⟨rfl, rfl⟩ := hra
      refine ⟨_, _, hend3 (some .ret), .inr ⟨rfl, by simp, M2, h3.mem.putObj hl3 rfl hF1, h3.new, ?_, rfl, rfl, hFD1, hF1, World.putObj_heap_same hlt3, (World.putObj_heap_other (by omega)).trans hK3⟩⟩
      exact (n4.putObj (by rw [hl3]; rfl) hB hMl).to rfl rfl
  · -- the start
    refine ⟨s, by simpa using hc, rfl, rfl, ?_, ⟨h.new.m, h.new.s⟩, ?_, fun _ _ => rfl, .inr (.inl rfl), .inr (.inr rfl), hL1, hK1⟩
    · have hm1 := h.mem.grown hg1
      refine ⟨⟨hm1.sep.apart, fun r o st b n ho hs hb hF => ?_, hm1.sep.lt, fun b hb => ?_, hm1.sep.base⟩, fun r o ho => ?_⟩
      · have hlt := (h.mem.sep.lt st b n hb).1
        rcases hF with hF | rfl | rfl
        · exact h.mem.sep.live r o st b n ho hs hb hF
        · omega
        · omega
      · rcases hb with hb | rfl | rfl
        · have := h.mem.sep.flt b hb; omega
        · omega
        · omega
      · have hE1 : Ext B0 M ⟨M.m, fun b => M.F b ∨ b = D ∨ b = D + 1⟩ W1 W1 := ⟨fun _ _ h => h, fun _ h => .inl h, fun _ _ => rfl, Below.refl _ _⟩
        exact (hm1.obj r o ho).mono hE1 (fun _ _ => rfl) (fun _ _ _ _ _ => rfl)
    · exact ⟨⟨fun _ _ h => h, fun _ h => .inl h, fun b hb => hg1.block b (h.mem.sep.flt b hb) (by simp), (Ext.grown h.mem hg1).below⟩, fun _ _ h => .inl h, fun r o st h h' => .inl ⟨o, h, h'⟩, Nat.le_refl _, Nat.le_refl _⟩
  · -- behind the iterator
    rintro ee W2 ⟨⟨v, rfl⟩, (⟨Mk, sk, hra, ht, hnt, hm, hfc, hn, hrows, hFD, hFl, hl, hK⟩ | ⟨hne, Mx, hm, hfc, hn, ht, hnt, hFD, hFl, hl, hK⟩)⟩
    · rw [List.drop_length] at hra
      simp only [rangeA, Option.some.injEq, Prod.mk.injEq] at hra
      obtain ⟨rfl, rfl⟩ := hra
      have hel := run_endLoop (P := C.P) hl (by rw [hrec]; simp)
      rw [hrec] at hel
      obtain ⟨q1, q2, q3⟩ := hend none hn hm hfc ht hnt hFD hFl hK ⟨_, hl⟩ { (rec .ready none) with state := .exhausted }
      rw [hrec] at q1 q2 q3
      exact ⟨none, _, hel, rfl, Mk, q1, q2, q3⟩
    · have hel := run_endLoop (P := C.P) hl (by rw [hrec]; simp)
      rw [hrec] at hel
      obtain ⟨q1, q2, q3⟩ := hend none hn hm hfc ht hnt hFD hFl hK ⟨_, hl⟩ { (rec .done (some e.code)) with state := .exhausted }
      rw [hrec] at q1 q2 q3
      refine ⟨some e.code, _, hel, ?_⟩
      cases e with
      | normal => exact absurd rfl hne
      | exit id => exact wpIn_exit ⟨rfl, Mx, q1, q2, q3⟩
      | ret => exact wpIn_ret ⟨rfl, Mx, q1, q2, q3⟩

theorem code_sound {call : CallF} (hcall : CallOk C call) (hdraw : DrawOk C) (hhook : HookOk C) (hiter : IterOk C) (lo g n : Nat) : ∀ (c : Code) (s s' : St) (e : Ex) (a : Act) (M : Mp) (w : World), (∀ id ops, RegIn id ops c → ∃ fn c0, C.P.funcs[g]? = some fn ∧ fn.body = some c0 ∧ RegIn id ops c0) → regsOk C g c = true → SR C B0 p M s a w → (lo ≤ w.heap.size ∧ Mk lo M a w) → codeA C call g p n c s = some (e, s') →
    c.wp C.P (fun e' a' w' => e' = e.to ∧ ∃ M', SR C B0 p M' s' a' w' ∧ Nx B0 p M M' s s' w w' ∧ Mk lo M' a' w') a w := by
  intro c
  induction c with
  | skip =>
    intro s s' e a M w hin hrg h hmk hc
    simp [codeA] at hc; obtain ⟨rfl, rfl⟩ := hc
    exact wp_skip ⟨rfl, M, h, Nx.refl s, hmk.2⟩
  | label l =>
    intro s s' e a M w hin hrg h hmk hc
    simp [codeA] at hc; obtain ⟨rfl, rfl⟩ := hc
    exact wp_label ⟨rfl, M, h, Nx.refl s, hmk.2⟩
  | region id ops draw =>
    intro s s' e a M w hin hrg h hmk hc
    simp only [codeA, Option.map_eq_some_iff, Prod.mk.injEq] at hc
    obtain ⟨s1, hs1, rfl, rfl⟩ := hc
    cases draw with
    | false =>
      simp only [Bool.false_eq_true, if_false] at hs1
      exact (wpIn_wide (n := 0)).1 (wpIn_region_list (opsA_in hcall ops none 0 _ s s1 a M w h hs1 fun M' a' w' h' hn hd => ⟨rfl, M', h', hn, hmk.2.mono hn.ext hd⟩))
    | true =>
      simp only [if_true] at hs1
      unfold drawA at hs1
      split at hs1
      · rename_i q hq
        obtain ⟨fn, c0, k1, k2, k3⟩ := hin id ops ⟨rfl, rfl, rfl⟩
        refine wp_mono (hhook g id q hq fn c0 ops k1 k2 k3 B0 p s s1 a M w h hs1) ?_
        rintro e' a' w' ⟨rfl, M', h', hn, hd⟩
        exact ⟨rfl, M', h', hn, hmk.2.mono hn.ext hd⟩
      · rename_i hq
        refine wp_mono (wpIn_wide.1 (hdraw call hcall B0 p g id ops s s1 a M w h (by simpa [regsOk, hq] using hrg) hs1 none 0)) ?_
        rintro e' a' w' ⟨rfl, M', h', hn, hd⟩
        exact ⟨rfl, M', h', hn, hmk.2.mono hn.ext hd⟩
  | seq c1 c2 ih1 ih2 =>
    intro s s' e a M w hin hrg h hmk hc
    simp only [codeA, Option.bind_eq_some_iff] at hc
    obtain ⟨⟨e1, s1⟩, h1, hc⟩ := hc
    refine wp_seq (wp_mono (ih1 s s1 e1 a M w (fun id ops q => hin id ops (.inl q)) (by simp only [regsOk, Bool.and_eq_true] at hrg; exact hrg.1) h hmk h1) ?_)
    rintro e' a' w' ⟨rfl, M', h', hn, hk⟩
    cases e1 with
    | normal =>
      simp only at hc
      refine wp_mono (ih2 s1 s' e a' M' w' (fun id ops q => hin id ops (.inr q)) (by simp only [regsOk, Bool.and_eq_true] at hrg; exact hrg.2) h' ⟨Nat.le_trans hmk.1 hn.ext.below.size, hk⟩ hc) ?_
      rintro e' a2 w2 ⟨rfl, M2, h2, hn2, hk2⟩
      exact ⟨rfl, M2, h2, hn.trans hn2, hk2⟩
    | exit id => simp at hc; obtain ⟨rfl, rfl⟩ := hc; exact ⟨rfl, M', h', hn, hk⟩
    | ret => simp at hc; obtain ⟨rfl, rfl⟩ := hc; exact ⟨rfl, M', h', hn, hk⟩
  | cond k c1 c2 ih1 ih2 =>
    intro s s' e a M w hin hrg h hmk hc
    simp only [codeA] at hc
    split at hc
    · rename_i x hk
      have hkr := ev_rel h.gl h.fr k
      rw [hk] at hkr
      refine wp_cond hkr.b_inv ?_
      cases x
      · exact ih2 s s' e a M w (fun id ops q => hin id ops (.inr q)) (by simp only [regsOk, Bool.and_eq_true] at hrg; exact hrg.2) h hmk (by simpa using hc)
      · exact ih1 s s' e a M w (fun id ops q => hin id ops (.inl q)) (by simp only [regsOk, Bool.and_eq_true] at hrg; exact hrg.1) h hmk (by simpa using hc)
    · simp at hc
  | block id c ih =>
    intro s s' e a M w hin hrg h hmk hc
    simp only [codeA, Option.map_eq_some_iff, Prod.mk.injEq] at hc
    obtain ⟨⟨e1, s1⟩, h1, rfl, rfl⟩ := hc
    refine wp_block (wp_mono (ih s s1 e1 a M w hin (by simpa [regsOk] using hrg) h hmk h1) ?_)
    rintro e' a' w' ⟨rfl, M', h', hn, hk⟩
    cases e1 with
    | normal => exact ⟨by simp [Ex.to], M', h', hn, hk⟩
    | exit id' =>
      by_cases hid : id' = id
      · subst hid; simp only [Exit.inBlock, Ex.to, if_true]; exact ⟨trivial, M', h', hn, hk⟩
      · have : ¬ (Ex.exit id' = Ex.exit id) := by intro e; injection e; contradiction
        simp only [Exit.inBlock, Ex.to, if_neg hid, if_neg this]; exact ⟨trivial, M', h', hn, hk⟩
    | ret => exact ⟨by simp [Ex.to], M', h', hn, hk⟩
  | loop c ih =>
    intro s s' e a M w hin hrg h hmk hc
    simp only [codeA] at hc
    refine wp_loop_rounds n ?_
    have key : ∀ (Q : Exit → Act → World → Prop) (m : Nat) (s1 : St) (a1 : Act) (M1 : Mp) (w1 : World), SR C B0 p M1 s1 a1 w1 → (lo ≤ w1.heap.size ∧ Mk lo M1 a1 w1) → loopA (codeA C call g p n c) m s1 = some (e, s') →
        (∀ M2 a2 w2, SR C B0 p M2 s' a2 w2 → Nx B0 p M1 M2 s1 s' w1 w2 → Mk lo M2 a2 w2 → Q e.to a2 w2) → Code.rounds C.P c Q m a1 w1 := by
      intro Q m
      induction m with
      | zero => intro s1 a1 M1 w1 h1 hmk hl; simp [loopA] at hl
      | succ m ihm =>
        intro s1 a1 M1 w1 h1 hmk hl hQ
        simp only [loopA, Option.bind_eq_some_iff] at hl
        obtain ⟨⟨e2, s2⟩, h2, hl⟩ := hl
        rw [rounds_succ]
        refine wp_mono (ih s1 s2 e2 a1 M1 w1 hin (by simpa [regsOk] using hrg) h1 hmk h2) ?_
        rintro e' a' w' ⟨rfl, M', h', hn, hk⟩
        cases e2 with
        | normal =>
          simp only at hl
          exact ihm s2 a' M' w' h' ⟨Nat.le_trans hmk.1 hn.ext.below.size, hk⟩ hl fun M2 a2 w2 h2 hn2 hk2 => hQ M2 a2 w2 h2 (hn.trans hn2) hk2
        | exit id => simp at hl; obtain ⟨rfl, rfl⟩ := hl; exact hQ M' a' w' h' hn hk
        | ret => simp at hl; obtain ⟨rfl, rfl⟩ := hl; exact hQ M' a' w' h' hn hk
    exact key _ n s a M w h hmk hc fun M2 a2 w2 h2 hn2 hk2 => ⟨rfl, M2, h2, hn2, hk2⟩
  | rangeFunc f ps c1 c2 ih1 ih2 =>
    intro s s' e a M w hin hrg h hmk hc
    simp only [regsOk, Bool.and_eq_true] at hrg
    exact range_sound hcall hdraw hiter g n hrg.1 hrg.2 h lo hmk.1 hmk.2 hc
  | exit id =>
    intro s s' e a M w hin hrg h hmk hc
    simp [codeA] at hc; obtain ⟨rfl, rfl⟩ := hc
    exact wp_exit ⟨rfl, M, h, Nx.refl s, hmk.2⟩
  | scope c ih =>
    intro s s' e a M w hin hrg h hmk hc
    simp only [codeA] at hc
    refine wp_scope_straight (wp_mono (ih s s' e a M w hin (by simpa [regsOk] using hrg) h hmk hc) ?_)
    rintro e' a' w' ⟨rfl, M', h', hn, hk⟩
    cases e <;> exact ⟨rfl, M', h', hn, hk⟩
  | goto l => intro s s' e a M w hin hrg h hmk hc; simp [codeA] at hc
  | ret =>
    intro s s' e a M w hin hrg h hmk hc
    simp [codeA] at hc; obtain ⟨rfl, rfl⟩ := hc
    exact wp_ret ⟨rfl, M, h, Nx.refl s, hmk.2⟩
  | refuse why => intro s s' e a M w hin hrg h hmk hc; simp [codeA] at hc
end
end Go.Am
