/- Functions of the abstract machine are what the model's calls come to. -/
import Derived.Test.YtgagaobijjahhaaGreatDoorAmCode
namespace Go.Am
open Go.RowKit
set_option linter.unusedVariables false
set_option linter.unusedSimpArgs false

namespace T
variable {α : Type}
theorem ofList_get (l : List α) (d : Nat) : (ofList l).get d = l[d]? := by
  have key : ∀ (l : List α) (k : Nat) (t : T α), ((l.zipIdx k).foldl (fun t p => t.set p.2 p.1) t).get d = if k ≤ d ∧ d < k + l.length then l[d - k]? else t.get d := by
    intro l
    induction l with
    | nil => intro k t; simp; omega
    | cons x l ih =>
      intro k t
      rw [List.zipIdx_cons, List.foldl_cons, ih, get_set]
      by_cases h1 : k + 1 ≤ d ∧ d < k + 1 + l.length
      · rw [if_pos h1, if_pos (by simp only [List.length_cons]; omega), show d - k = (d - (k + 1)) + 1 by omega]
        simp
      · rw [if_neg h1]
        by_cases h2 : d = k
        · subst h2; rw [if_pos rfl, if_pos (by simp)]; simp
        · rw [if_neg h2, if_neg (by simp only [List.length_cons]; omega)]
  rw [ofList, key]
  split
  · simp
  · rename_i h
    rw [List.getElem?_eq_none (by omega)]
    rfl
end T

section
variable {C : Cfg} {M M' : Mp} {w w' : World} {B0 : Nat} {p : List Nat} {σ σ' : List O}

def MF (M : Mp) (σ : List O) (base : Nat) : Mp where
  m := M.m
  F := fun b => M.F b ∨ ∃ (r : Nat) (o : O) (st : List Nat) (n : Nat), base ≤ r ∧ σ[r]? = some o ∧ o.st = some st ∧ M.m st = some (b, n)
theorem MF.ext (B0 : Nat) (M : Mp) (σ : List O) (base : Nat) (w : World) : Ext B0 M (MF M σ base) w w := ⟨fun _ _ h => h, fun _ h => .inl h, fun _ _ => rfl, Below.refl _ _⟩

theorem freeze1_one (base : Nat) (σ : List O) (d : Nat) (v : V) : (freeze1 base σ d v).one = v.one := by
  cases d with
  | zero => rfl
  | succ d =>
    cases v <;> try rfl
    simp only [freeze1]
    split
    · split
      · split <;> rfl
      · rfl
    · rfl
theorem freeze1_rel (h : MR B0 M σ w) (base : Nat) : ∀ (d : Nat) (v : V) (y : Value), Rel (MF M σ base) w v y → Rel (MF M σ base) w (freeze1 base σ d v) y := by
  intro d
  induction d with
  | zero => intro v y hv; exact hv
  | succ d ih =>
    intro v y hm
    have hv := hm
    cases v <;> try exact hm
    rename_i r st o n es cap
    simp only [freeze1]
    split
    · rename_i hr
      split
      · rename_i cs hcs
        obtain ⟨b, nn, k, hst, rfl, hk, _, hcap⟩ := hv.sl_inv
        have hclip : (cap == some n) = true → k = n := by
          intro e; simp at e; exact hcap n e
        split
        · rename_i hn
          subst hn
          refine .arr [] 0 _ _ [] k (fun h => absurd rfl h) (fun _ h => by cases h) .nil (fun j y h => by simp at h) (Nat.zero_le _) (fun e => ?_)
          simp at e; exact hcap 0 e
        · have hrow := rowAt_some hcs
          obtain ⟨g1, g2, g3, g4⟩ := h.obj r _ hrow b nn hst
          have hcell : ∀ (j : Nat) z, ((cs.drop o).take (n * es))[j]? = some z → ∃ u, w.cell? ((⟨b, o, none⟩ : Addr).add j) = some u ∧ Rel M w z u := by
            intro j z hz
            rw [List.getElem?_take] at hz
            split at hz
            · rw [List.getElem?_drop] at hz
              obtain ⟨u, hu, hr'⟩ := g4 _ z hz
              exact ⟨u, by rw [add_off]; exact hu, hr'⟩
            · simp at hz
          obtain ⟨ys, _, q2, q3⟩ := run_cells (C := { P := default }) (M := M) (w := w) (xs := (cs.drop o).take (n * es)) (a := ⟨b, o, none⟩) hcell
          refine .arr _ n _ ⟨b, o, none⟩ ys k (fun _ => .inr ⟨r, _, st, nn, hr, hrow, rfl, hst⟩) (fun x hx => ?_) ?_ q3 hk hclip
          · rw [List.mem_map] at hx
            obtain ⟨x', hx', rfl⟩ := hx
            rw [freeze1_one]
            exact g2 x' (List.mem_of_mem_drop (List.mem_of_mem_take hx'))
          · refine RelL.of_get (by rw [List.length_map]; exact q2.length) fun j x y hx hy => ?_
            rw [List.getElem?_map, Option.map_eq_some_iff] at hx
            obtain ⟨x', hx', rfl⟩ := hx
            obtain ⟨y', hy', hr'⟩ := q2.get hx'
            rw [hy] at hy'; cases hy'
            exact ih x' y (hr'.mono (MF.ext B0 M σ base w))
      · exact hm
    · exact hm
theorem freezeC_rel (h : MR B0 M σ w) (base : Nat) {v : V} {y : Value} (hv : Rel M w v y) : Rel (MF M σ base) w (freezeC base σ v) y := by
  have hv := hv.mono (MF.ext B0 M σ base w)
  cases v <;> try exact freeze1_rel h base 4 _ _ hv
  rename_i cs
  obtain ⟨vs, rfl, ho, hr⟩ := hv.agg_inv
  refine .agg _ _ (fun x hx => ?_) ?_
  · rw [List.mem_map] at hx
    obtain ⟨x', hx', rfl⟩ := hx
    rw [freeze1_one]; exact ho x' hx'
  · refine RelL.of_get (by rw [List.length_map]; exact hr.length) fun j x y hx hy => ?_
    rw [List.getElem?_map, Option.map_eq_some_iff] at hx
    obtain ⟨x', hx', rfl⟩ := hx
    obtain ⟨y', hy', hr'⟩ := hr.get hx'
    rw [hy] at hy'; cases hy'
    exact freeze1_rel h base 4 x' y hr'
theorem freeze_rel (h : MR B0 M σ w) (base : Nat) {v : V} {y : Value} (hv : Rel M w v y) : Rel (MF M σ base) w (freeze base σ v) y := by
  cases v <;> try exact freezeC_rel h base hv
  rename_i cs
  obtain ⟨vs, rfl, hr⟩ := hv.tup_inv
  refine .tup _ _ (RelL.of_get (by rw [List.length_map]; exact hr.length) fun j x y hx hy => ?_)
  rw [List.getElem?_map, Option.map_eq_some_iff] at hx
  obtain ⟨x', hx', rfl⟩ := hx
  obtain ⟨y', hy', hr'⟩ := hr.get hx'
  rw [hy] at hy'; cases hy'
  exact freezeC_rel h base hr'

def SameSt (σ1 σ2 : List O) : Prop := σ1.length ≤ σ2.length ∧ ∀ (r : Nat) o, σ1[r]? = some o → ∃ o', σ2[r]? = some o' ∧ o'.st = o.st

theorem cells_freeze (h : MR B0 M σ w) (base : Nat) {b : Nat} (o : Nat) : ∀ (offs : List Nat) (cs : List V), (∀ x ∈ cs, x.one = true) → (∀ (j : Nat) x, cs[j]? = some x → ∃ y, w.cell? ⟨b, j, none⟩ = some y ∧ Rel (MF M σ base) w x y) →
    (offs.foldl (frzAt base σ o) cs).length = cs.length ∧
    (∀ x ∈ offs.foldl (frzAt base σ o) cs, x.one = true) ∧
    (∀ (j : Nat) x, (offs.foldl (frzAt base σ o) cs)[j]? = some x → ∃ y, w.cell? ⟨b, j, none⟩ = some y ∧ Rel (MF M σ base) w x y) := by
  intro offs
  induction offs with
  | nil => intro cs h1 h2; exact ⟨rfl, h1, h2⟩
  | cons k offs ih =>
    intro cs h1 h2
    rw [List.foldl_cons]
    cases hv : cs[o + k]? with
    | some v =>
      rw [show frzAt base σ o cs k = cs.set (o + k) (freeze1 base σ 4 v) by simp [frzAt, hv]]
      have hl := (List.getElem?_eq_some_iff.1 hv).1
      obtain ⟨g1, g2, g3⟩ := ih (cs.set (o + k) (freeze1 base σ 4 v)) (fun x hx => by
          rcases List.mem_or_eq_of_mem_set hx with hx | rfl
          · exact h1 x hx
          · rw [freeze1_one]; exact h1 v (List.mem_of_getElem? hv)) (fun j x hx => by
          by_cases e : j = o + k
          · subst e
            rw [List.getElem?_set_self hl] at hx
            cases hx
            obtain ⟨y, hy, hr⟩ := h2 _ v hv
            exact ⟨y, hy, freeze1_rel h base 4 v y hr⟩
          · rw [List.getElem?_set_ne (Ne.symm e)] at hx
            exact h2 j x hx)
      exact ⟨by rw [g1, List.length_set], g2, g3⟩
    | none =>
      rw [show frzAt base σ o cs k = cs by simp [frzAt, hv]]
      exact ih cs h1 h2

theorem escape_sound (h : MR B0 M σ w) (base : Nat) (args : List V) : ∀ (esc : List (Nat × List Nat)) (σ1 : List O), σ1.length ≤ base → SameSt σ1 σ → (∀ (r : Nat) ob, σ1[r]? = some ob → ObjRel (MF M σ base) w ob) →
    (escape base σ args esc σ1).length = σ1.length ∧ SameSt (escape base σ args esc σ1) σ ∧ (∀ (r : Nat) ob, (escape base σ args esc σ1)[r]? = some ob → ObjRel (MF M σ base) w ob) := by
  intro esc
  induction esc with
  | nil => intro σ1 hl h1 h2; exact ⟨rfl, h1, h2⟩
  | cons a esc ih =>
    intro σ1 hl h1 h2
    obtain ⟨j, offs⟩ := a
    simp only [escape]
    split
    · rename_i r st o hargs
      split
      · rename_i st' cs hσ
        have hrl := (List.getElem?_eq_some_iff.1 hσ).1
        have hlen : ∀ x : O, (σ1.set r x).length = σ1.length := fun x => List.length_set
        obtain ⟨g1, g2, g3⟩ := ih (σ1.set r (.cells st' (offs.foldl (frzAt base σ o) cs))) (by rw [hlen]; exact hl)
          ⟨by rw [hlen]; exact h1.1, fun r' ob hob => by
            by_cases e : r' = r
            · subst e
              rw [List.getElem?_set_self hrl] at hob; cases hob
              obtain ⟨o', a1, a2⟩ := h1.2 r' _ hσ
              exact ⟨o', a1, a2⟩
            · rw [List.getElem?_set_ne (Ne.symm e)] at hob
              exact h1.2 r' ob hob⟩ (fun r' ob hob => by
            by_cases e : r' = r
            · subst e
              rw [List.getElem?_set_self hrl] at hob; cases hob
              intro b n hn
              obtain ⟨q1, q2, q3, q4⟩ := h2 r' _ hσ b n hn
              obtain ⟨f1, f2, f3⟩ := cells_freeze h base (b := b) o offs cs q2 q4
              exact ⟨by rw [f1]; exact q1, f2, fun j hj => by rw [f1]; exact q3 j hj, f3⟩
            · rw [List.getElem?_set_ne (Ne.symm e)] at hob
              exact h2 r' ob hob)
        exact ⟨by rw [g1, hlen], g2, g3⟩
      · exact ih σ1 hl h1 h2
    · exact ih σ1 hl h1 h2

theorem take_sound (h : MR B0 M σ w) (base : Nat) (hb : base ≤ σ.length) (args : List V) (esc : List (Nat × List Nat)) :
    MR B0 (MF M σ base) (escape base σ args esc (σ.take base)) w ∧ (escape base σ args esc (σ.take base)).length = base ∧ SameSt (escape base σ args esc (σ.take base)) σ := by
  have hlen : (σ.take base).length = base := by simp; omega
  have hget : ∀ (r : Nat) ob, (σ.take base)[r]? = some ob → r < base ∧ σ[r]? = some ob := by
    intro r ob hob
    rw [List.getElem?_take] at hob
    split at hob
    · exact ⟨by assumption, hob⟩
    · simp at hob
  obtain ⟨g1, g2, g3⟩ := escape_sound h base args esc (σ.take base) (by omega) ⟨by simp; omega, fun r ob hob => ⟨ob, (hget r ob hob).2, rfl⟩⟩ (fun r ob hob => (h.obj r ob (hget r ob hob).2).mono (MF.ext B0 M σ base w) (fun _ _ => rfl) (fun _ _ _ _ _ => rfl))
  refine ⟨⟨⟨?_, ?_, h.sep.lt, ?_, h.sep.base⟩, g3⟩, by rw [g1, hlen], g2⟩
  · intro r r' o1 o2 st st' b n n' e1 e2 hne s1 s2 m1 m2
    obtain ⟨o3, a1, a2⟩ := g2.2 r o1 e1
    obtain ⟨o4, a3, a4⟩ := g2.2 r' o2 e2
    exact h.sep.apart r r' o3 o4 st st' b n n' a1 a3 hne (a2.trans s1) (a4.trans s2) m1 m2
  · intro r o1 st b n e1 s1 m1 hF
    obtain ⟨o3, a1, a2⟩ := g2.2 r o1 e1
    have hr : r < base := by
      have := (List.getElem?_eq_some_iff.1 e1).1; omega
    rcases hF with hF | ⟨r', o', st', n', hr', e2, s2, m2⟩
    · exact h.sep.live r o3 st b n a1 (a2.trans s1) m1 hF
    · exact h.sep.apart r r' o3 o' st st' b n n' a1 e2 (by omega) (a2.trans s1) s2 m1 m2
  · intro b hF
    rcases hF with hF | ⟨r', o', st', n', hr', e2, s2, m2⟩
    · exact h.sep.flt b hF
    · exact (h.sep.lt _ _ _ m2).1

def resM (tmps : Array Value) : ResultVar → Sem Value
  | .tmp t => pure (tmps.getD t undef)
  | .cell a t => do loadVar t (← asAddr (tmps.getD a undef))
theorem results_eq (fn : Func) (tmps : Array Value) : results fn tmps = (do let vs ← fn.results.mapM (resM tmps); pure (if h : vs.size = 1 then vs[0] else .tuple vs)) := by
  unfold results
  congr 1
theorem res_sound {s : St} {a : Act} (h : SR C B0 p M s a w) : ∀ (rs : List ResultVar) (vs : List V), resA C s rs = some vs →
    ∃ ys : List Value, (rs.mapM (resM a.tmps)).run C.P w = .ok ys w ∧ RelL M w vs ys := by
  intro rs
  induction rs with
  | nil => intro vs hv; simp [resA] at hv; subst hv; exact ⟨[], by simp, .nil⟩
  | cons r rs ih =>
    intro vs hv
    cases r with
    | tmp t =>
      simp only [resA, Option.map_eq_some_iff] at hv
      obtain ⟨vs', hv', rfl⟩ := hv
      obtain ⟨ys, h1, h2⟩ := ih vs' hv'
      refine ⟨a.tmps.getD t undef :: ys, ?_, .cons _ _ _ _ (h.fr.tmp t) h2⟩
      rw [List.mapM_cons]
      simp only [resM, Sem.run_bind, Sem.run_pure, Result.andThen_ok, h1]
    | cell a' t =>
      simp only [resA, Option.bind_eq_some_iff, Option.map_eq_some_iff] at hv
      obtain ⟨v, hl, vs', hv', rfl⟩ := hv
      obtain ⟨ys, h1, h2⟩ := ih vs' hv'
      obtain ⟨u, hu, hr⟩ := load_sound hl (h.fr.tmp a') (fun r st off e o ho => h.mem.obj r o ho)
      refine ⟨u :: ys, ?_, .cons _ _ _ _ hr h2⟩
      rw [List.mapM_cons]
      have hh : (resM a.tmps (.cell a' t)).run C.P w = .ok u w := by
        cases hq : a.tmps.getD a' undef <;> rw [hq] at hu <;> simp [Instr.loadAt, Instr.sureAddr] at hu
        rename_i ad
        cases ad <;> simp at hu
        simp only [resM, hq]
        simpa [asAddr] using hu
      simp only [Sem.run_bind, hh, Result.andThen_ok, h1, Sem.run_pure]

def PrimOkV (C : Cfg) : Prop :=
  ∀ (B0 : Nat) (f : Nat) (g : List V → List O → Option V), C.prim f = some g → ∀ (args : List V) (σ : List O) (p : List Nat) (v : V), g args σ = some v →
    ∀ (M : Mp) (w : World) (cargs : List Value), MR B0 M σ w → GR C M w → RelL M w args cargs → (∀ q, M.m (q ++ p) = none) → (∀ (r : Nat) o st q, σ[r]? = some o → o.st = some st → st ≠ q ++ p) →
    ∃ nx w1 M1, (callFunc f cargs.toArray).run C.P w = .ok nx w1 ∧ Ext B0 M M1 w w1 ∧ MR B0 M1 σ w1 ∧ M1 = M ∧
      ((∃ y, nx = .value y ∧ Rel M1 w1 v y ∧ σ = σ) ∨
       (nx = .enter f cargs.toArray ∧ Calls C.P f cargs.toArray w1 fun e w' => ∃ M' y, e = .returned y ∧ Rel M' w' v y ∧ Ext B0 M1 M' w1 w' ∧ MR B0 M' σ w' ∧ σ.length ≤ σ.length ∧
        (∀ st x, M'.m st = some x → M1.m st = some x ∨ ∃ q, st = q ++ p) ∧
        (∀ (r : Nat) o st, σ[r]? = some o → o.st = some st → (∃ o', σ[r]? = some o' ∧ o'.st = some st) ∨ ∃ q, st = q ++ p)))
def CallOkAt (C : Cfg) (f : Nat) (g : List V → List O → List Nat → Option (V × List O)) : Prop :=
  ∀ (B0 : Nat) (args : List V) (σ : List O) (p : List Nat) (v : V) (σ' : List O), g args σ p = some (v, σ') →
    ∀ (M : Mp) (w : World) (cargs : List Value), MR B0 M σ w → GR C M w → RelL M w args cargs → (∀ q, M.m (q ++ p) = none) → (∀ (r : Nat) o st q, σ[r]? = some o → o.st = some st → st ≠ q ++ p) →
    ∃ nx w1 M1, (callFunc f cargs.toArray).run C.P w = .ok nx w1 ∧ Ext B0 M M1 w w1 ∧ MR B0 M1 σ w1 ∧ M1 = M ∧
      ((∃ y, nx = .value y ∧ Rel M1 w1 v y ∧ σ' = σ) ∨
       (nx = .enter f cargs.toArray ∧ Calls C.P f cargs.toArray w1 fun e w' => ∃ M' y, e = .returned y ∧ Rel M' w' v y ∧ Ext B0 M1 M' w1 w' ∧ MR B0 M' σ' w' ∧ σ.length ≤ σ'.length ∧
        (∀ st x, M'.m st = some x → M1.m st = some x ∨ ∃ q, st = q ++ p) ∧
        (∀ (r : Nat) o st, σ'[r]? = some o → o.st = some st → (∃ o', σ[r]? = some o' ∧ o'.st = some st) ∨ ∃ q, st = q ++ p)))
theorem CallOk.at {C C' : Cfg} {call : CallF} (h : CallOk C call) (hP : C.P = C'.P) (hG : C.glob = C'.glob) (f : Nat) : CallOkAt C' f (call f) := by
  intro B0 args σ p v σ' hr M w cargs hM hg ha h1 h2
  rw [← hP]
  exact h B0 f args σ p v σ' hr M w cargs hM ⟨fun g cs hc => hg.glob g cs (by rw [← hG]; exact hc)⟩ ha h1 h2
def StillOk (C : Cfg) : Prop := ∀ f g, C.still f = some g → CallOkAt C f fun args σ p => (g args).map fun v => (v, σ)
theorem still_none {C : Cfg} (h : ∀ f, C.still f = none) : StillOk C := fun f g hf => by rw [h] at hf; cases hf
structure PrimOk (C : Cfg) : Prop where
  v : PrimOkV C
  m : ∀ f g, C.primM f = some g → CallOkAt C f g
  hook : HookOk C
  iter : IterOk C := by exact iter_none fun _ => rfl
  still : StillOk C := by exact still_none fun _ => rfl
theorem run_callFunc {C : Cfg} {f : Nat} {fn : Func} {c : Code} (hn : (fn.name != "runtime.NumGoroutine") = true) (hf : C.P.funcs[f]? = some fn) (hb : fn.body = some c) (args : Array Value) (w : World) : (callFunc f args).run C.P w = .ok (.enter f args) w := by
  simp only [bne_iff_ne, ne_eq] at hn
  simp [callFunc, hf, hn, hb]
theorem fnsOk_get {f : Nat} {fn : Func} {c : Code} (h : fnsOk C = true) (h1 : C.prim f = none) (h2 : C.bar f = false) (hf : C.P.funcs[f]? = some fn) (hc : fn.body = some c) :
    regsOk C f c = true ∧ (fn.name != "runtime.NumGoroutine") = true := by
  unfold fnsOk at h
  rw [List.all_eq_true] at h
  have := h f (List.mem_range.2 (Array.getElem?_eq_some_iff.1 hf).1)
  simpa [h1, h2, hf, hc] using this

theorem call_of_wp {f : Nat} {fn : Func} {c : Code} (hf : C.P.funcs[f]? = some fn) (hc : fn.body = some c) {args : List V} {σ σ' : List O} {p : List Nat} {v : V} {M : Mp} {w : World} {cargs : List Value}
    (hM : MR B0 M σ w) (hg : GR C M w) (hargs : RelL M w args cargs) (hm : ∀ q, M.m (q ++ p) = none) (hs : ∀ (r : Nat) o st q, σ[r]? = some o → o.st = some st → st ≠ q ++ p)
    (hwp : ∀ a, SR C B0 p M ⟨T.ofList args, max args.length fn.ntmps, σ, 0⟩ a w → Mk w.heap.size M a w → c.wp C.P (fun e' a' w' => ∃ e s', e' = e.to ∧ doneA C f p σ.length args fn.results.toList (e, s') = some (v, σ') ∧
      ∃ M', SR C B0 p M' s' a' w' ∧ Nx B0 p M M' ⟨T.ofList args, max args.length fn.ntmps, σ, 0⟩ s' w w' ∧ Mk w.heap.size M' a' w') a w) :
    Calls C.P f cargs.toArray w fun e w' => ∃ M' y, e = .returned y ∧ Rel M' w' v y ∧ Ext B0 M M' w w' ∧ MR B0 M' σ' w' ∧ σ.length ≤ σ'.length ∧
        (∀ st x, M'.m st = some x → M.m st = some x ∨ ∃ q, st = q ++ p) ∧
        (∀ (r : Nat) o st, σ'[r]? = some o → o.st = some st → (∃ o', σ[r]? = some o' ∧ o'.st = some st) ∨ ∃ q, st = q ++ p) := by
  have hlen := hargs.length
  have hmine : ∀ c st, Mine p c st → ∃ q, st = q ++ p := by
    rintro c st ⟨q, rfl⟩
    exact ⟨q ++ [c], by simp⟩
  have h0 : SR C B0 p M ⟨T.ofList args, max args.length fn.ntmps, σ, 0⟩ { tmps := cargs.toArray ++ Array.replicate (fn.ntmps - cargs.toArray.size) undef, defers := [] } w := by
    refine ⟨hM, ⟨by simp [hlen]; omega, fun d => ?_⟩, ⟨fun k st _ hst => ?_, fun r o st k h1 h2 _ hst => ?_⟩, hg⟩
    · rw [T.ofList_get, Array.getD_eq_getD_getElem?]
      by_cases hdl : d < args.length
      · obtain ⟨x, hx⟩ : ∃ x, args[d]? = some x := ⟨args[d], by simp [hdl]⟩
        obtain ⟨y, hy, hr⟩ := hargs.get hx
        rw [hx, Array.getElem?_append_left (by simp; omega)]
        simp only [List.getElem?_toArray, hy, Option.getD_some]
        exact hr
      · rw [List.getElem?_eq_none (by omega)]
        rw [Array.getElem?_append_right (by simp; omega)]
        by_cases h2 : d - cargs.toArray.size < fn.ntmps - cargs.toArray.size
        · rw [Array.getElem?_replicate, if_pos h2]; exact rel_un
        · rw [Array.getElem?_replicate, if_neg h2]; exact rel_un
    · obtain ⟨q, rfl⟩ := hmine k st hst; exact hm q
    · obtain ⟨q, rfl⟩ := hmine k st hst; exact hs r o _ q h1 h2 rfl
  refine callsIn_wide.1 (callsIn_of_wp_marks (n := 0) hf hc trivial (wpIn_wide.2 (wp_mono (hwp _ h0 ⟨List.nodup_nil, fun d hd => by simp at hd⟩) ?_)))
  rintro e' a' w1 ⟨e, s', rfl, hdone, M1, h1, hnx1, hmk⟩
  have fin : ∀ (ds : List Deferred) (w' : World) (M' : Mp), SR C B0 p M' s' a' w' → Nx B0 p M M' ⟨T.ofList args, max args.length fn.ntmps, σ, 0⟩ s' w w' → Mk w.heap.size M' { a' with defers := ds } w' → (∀ id, e ≠ .exit id) →
      LeavesInM Fence.wide 0 C.P fn a'.tmps (fun e w' => ∃ M' y, e = .returned y ∧ Rel M' w' v y ∧ Ext B0 M M' w w' ∧ MR B0 M' σ' w' ∧ σ.length ≤ σ'.length ∧
        (∀ st x, M'.m st = some x → M.m st = some x ∨ ∃ q, st = q ++ p) ∧
        (∀ (r : Nat) o st, σ'[r]? = some o → o.st = some st → (∃ o', σ[r]? = some o' ∧ o'.st = some st) ∨ ∃ q, st = q ++ p)) ds .returning w' := by
    intro ds
    induction ds with
    | cons d ds ihd =>
      intro w' M' h' hnx hmk hne
      obtain ⟨D, rfl, g2, g3, g4⟩ := hmk.2 d (by simp)
      have hMD : ¬ M.F D := fun hb => by have := hM.sep.flt _ hb; omega
      refine ⟨by simp, .inl ⟨D, _, rfl, run_takeDeferred g4, ?_⟩⟩
      refine ihd _ M' (h'.putObj g4 rfl g3) (hnx.putObj (by rw [g4]; rfl) (Nat.le_trans hM.sep.base g2) hMD) ?_ hne
      have hnd := List.nodup_cons.1 hmk.1
      refine ⟨hnd.2, fun d hd => ?_⟩
      obtain ⟨D', q1, q2, q3, q4⟩ := hmk.2 d (by simp only [List.mem_cons]; exact .inr hd)
      have hne' : D' ≠ D := by rintro rfl; rw [q1] at hd; exact hnd.1 hd
      exact ⟨D', q1, q2, q3, (World.putObj_heap_other hne').trans q4⟩
    | nil =>
      intro w' M' h' hnx _ hne0
      have hdn : ∀ (hne : ∀ id, e ≠ .exit id), ∃ y, (results fn a'.tmps).run C.P w' = .ok y w' ∧ ∃ M2, Rel M2 w' v y ∧ Ext B0 M M2 w w' ∧ MR B0 M2 σ' w' ∧ σ.length ≤ σ'.length ∧
          (∀ st x, M2.m st = some x → M.m st = some x ∨ ∃ q, st = q ++ p) ∧
          (∀ (r : Nat) o st, σ'[r]? = some o → o.st = some st → (∃ o', σ[r]? = some o' ∧ o'.st = some st) ∨ ∃ q, st = q ++ p) := by
        intro hne
        have hdone' : ((resA C s' fn.results.toList).map fun vs => if C.keep f p then (tupled vs, s'.σ) else (freeze σ.length s'.σ (tupled vs), escape σ.length s'.σ args (C.esc f) (s'.σ.take σ.length))) = some (v, σ') := by
          cases e with
          | exit id => exact absurd rfl (hne id)
          | normal => exact hdone
          | ret => exact hdone
        rw [Option.map_eq_some_iff] at hdone'
        obtain ⟨vs, hvs, hif⟩ := hdone'
        obtain ⟨ys, hys, hrl⟩ := res_sound h' _ _ hvs
        have hres : (results fn a'.tmps).run C.P w' = .ok (if h : ys.length = 1 then ys[0] else .tuple ys.toArray) w' := by
          rw [results_eq, Array.mapM_eq_mapM_toList]
          simp only [Sem.run_bind, Sem.run_map, hys, Result.andThen_ok, Sem.run_pure]
          congr 1
        have hrv : Rel M' w' (tupled vs) (if h : ys.length = 1 then ys[0] else .tuple ys.toArray) := by
          have hl := hrl.length
          cases vs with
          | nil => cases hrl; exact .tup [] [] .nil
          | cons v1 vs => cases vs with
            | nil => cases hrl with | cons _ y _ ys h1 h2 => cases h2; simpa [tupled] using h1
            | cons v2 vs =>
              rw [dif_neg (by rw [← hl]; simp)]
              exact .tup _ _ hrl
        refine ⟨_, hres, ?_⟩
        have hold : ∀ (r : Nat) o st, s'.σ[r]? = some o → o.st = some st → (∃ o', σ[r]? = some o' ∧ o'.st = some st) ∨ ∃ q, st = q ++ p := by
          intro r o st h1 h2
          rcases hnx.onames r o st h1 h2 with h3 | ⟨k, _, h3⟩
          · exact .inl h3
          · exact .inr (hmine k st h3)
        have hnm : ∀ st x, M'.m st = some x → M.m st = some x ∨ ∃ q, st = q ++ p := by
          intro st x h1
          rcases hnx.names st x h1 with h3 | ⟨k, _, h3⟩
          · exact .inl h3
          · exact .inr (hmine k st h3)
        split at hif
        · cases hif
          exact ⟨M', hrv, hnx.ext, h'.mem, hnx.len, hnm, hold⟩
        · cases hif
          obtain ⟨t1, t2, t3⟩ := take_sound h'.mem σ.length hnx.len args (C.esc f)
          refine ⟨MF M' s'.σ σ.length, freeze_rel h'.mem σ.length hrv, hnx.ext.trans (MF.ext _ _ _ _ _), t1, by rw [t2]; exact Nat.le_refl _, hnm, fun r o st h1 h2 => ?_⟩
          obtain ⟨o', a1, a2⟩ := t3.2 r o h1
          exact hold r o' st a1 (a2.trans h2)
      obtain ⟨y, h1, M2, h2⟩ := hdn hne0
      exact ⟨y, h1, M2, y, rfl, h2⟩
  cases e with
  | exit id => simp [doneA] at hdone
  | normal => exact fin a'.defers w1 M1 h1 hnx1 hmk (fun id => by simp)
  | ret => exact fin a'.defers w1 M1 h1 hnx1 hmk (fun id => by simp)
theorem run_sound (hp : PrimOk C) (hk : fnsOk C = true) (hd : DrawOk C) : ∀ k, CallOk C (runA C k) := by
  intro k
  induction k with
  | zero => intro B0 f args σ p v σ' h; simp [runA] at h
  | succ k ih =>
    intro B0 f args σ p v σ' h M w cargs hM hg hargs hm hs
    simp only [runA] at h
    split at h
    · rename_i g hpr
      simp only [Option.map_eq_some_iff, Prod.mk.injEq] at h
      obtain ⟨v', hv, rfl, rfl⟩ := h
      exact hp.v B0 f g hpr args σ p v' hv M w cargs hM hg hargs hm hs
    · rename_i hpr
      split at h
      · rename_i g hpm
        exact hp.m f g hpm B0 args σ p v σ' h M w cargs hM hg hargs hm hs
      split at h
      · simp at h
      rename_i hbar
      split at h
      · rename_i fn hf
        split at h
        · rename_i c hc
          obtain ⟨hrg, hnm⟩ := fnsOk_get hk hpr (by simpa using hbar) hf hc
          refine ⟨_, w, M, run_callFunc hnm hf hc _ w, Ext.refl _ _ _, hM, rfl, .inr ⟨rfl, ?_⟩⟩
          simp only [Option.bind_eq_some_iff] at h
          obtain ⟨⟨e, s'⟩, hcode, hdone⟩ := h
          exact call_of_wp hf hc hM hg hargs hm hs fun a h0 hmk => wp_mono (code_sound ih hd hp.hook hp.iter w.heap.size f k c _ s' e _ M w (fun id ops hin => ⟨fn, c, hf, hc, hin⟩) hrg h0 ⟨Nat.le_refl _, hmk⟩ hcode) fun e' a' w' h1 => ⟨e, s', h1.1, hdone, h1.2⟩
        · simp at h
      · simp at h
end
end Go.Am
