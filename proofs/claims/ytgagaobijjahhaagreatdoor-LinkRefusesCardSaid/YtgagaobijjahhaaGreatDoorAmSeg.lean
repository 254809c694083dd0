/- A run in pieces: between them only what can still be reached is kept. -/
import Derived.Test.YtgagaobijjahhaaGreatDoorJP
namespace Go.Am
set_option linter.unusedVariables false
set_option linter.unusedSimpArgs false
noncomputable def B8 (l : List Nat) : List V := l.map fun n => .i .u8 (.ofNat n)
noncomputable def repV (n : Nat) (v : V) : List V := List.replicate n v
noncomputable def catV : List (List V) → List V
  | [] => []
  | a :: l => a ++ catV l
noncomputable def eqO : Option V → Option V → Bool
  | none, none => true
  | some x, some y => V.eqb x y
  | _, _ => false
noncomputable def treeV : T V → T V → Bool
  | .l, .l => true
  | .n v a b, .n v' a' b' => eqO v v' && (treeV a a' && treeV b b')
  | _, _ => false
theorem eqO_eq {a b : Option V} (h : eqO a b = true) : a = b := by
  unfold eqO at h
  split at h
  · rfl
  · rw [V.eqb_eq h]
  · cases h
theorem treeV_eq : ∀ {a b : T V}, treeV a b = true → a = b
  | .l, .l, _ => rfl
  | .n v a b, .n v' a' b', h => by
    simp only [treeV, Bool.and_eq_true] at h
    rw [eqO_eq h.1, treeV_eq h.2.1, treeV_eq h.2.2]
  | .l, .n _ _ _, h => by cases h
  | .n _ _ _, .l, h => by cases h
noncomputable def subT : T OB → T OB → Bool
  | .l, _ => true
  | .n v a b, .n v' a' b' => (match v with | none => true | some x => obEq (some x) v') && (subT a a' && subT b b')
  | .n _ _ _, .l => false
theorem subT_get : ∀ {a b : T OB} {k : Nat} {x : OB}, subT a b = true → a.get k = some x → b.get k = some x
  | .l, _, k, x, _, h => by simp [T.get] at h
  | .n v a b, .n v' a' b', k, x, h, hx => by
    simp only [subT, Bool.and_eq_true] at h
    simp only [T.get] at hx ⊢
    split at hx
    · rename_i e
      rw [if_pos e]
      rw [hx] at h
      obtain ⟨y, h1, h2⟩ := obEq_eq h.1
      rw [h2, ← h1]
    · rename_i e
      rw [if_neg e]
      split at hx
      · rename_i e2; rw [if_pos e2]; exact subT_get h.2.1 hx
      · rename_i e2; rw [if_neg e2]; exact subT_get h.2.2 hx
  | .n _ _ _, .l, k, x, h, _ => by cases h
noncomputable def subS (s r : SB) : Bool := treeV s.t r.t && (Nat.beq s.c r.c && (Nat.beq s.m.n r.m.n && subT s.m.h r.m.h))
theorem MB.sub {m r : Mem} {σ : List O} (h : MB r σ) (hn : m.n = r.n) (hs : subT m.h r.h = true) : MB m σ := by
  refine ⟨hn.trans h.n, fun i ob hi => ?_⟩
  obtain ⟨h1, h2⟩ := Mem.get_some hi
  refine h.h i ob ?_
  unfold Mem.get
  rw [if_pos (blt_of (by omega)), T.getB_eq]
  exact subT_get hs h2
section
variable (D : CB)
noncomputable def goB (call : CallB) (g : Nat) (p : List Nat) (nt n : Nat) : Nat → Code → SB → Option SB
  | 0, _, s => some s
  | k + 1, .seq a b, s => match codeB D call g p nt n a s with | some (.normal, s') => goB call g p nt n k b s' | _ => none
  | _, _, _ => none
def restC : Nat → Code → Code
  | 0, c => c
  | k + 1, .seq _ b => restC k b
  | _, c => c
noncomputable def segB (k f : Nat) (p : List Nat) (nt n : Nat) (c : Code) (s s' : SB) : Bool :=
  match goB D (runB D k) f p nt k n c s with | some r => subS s' r | none => false
end
section
variable {C : Cfg} {D : CB} (hD : DOk C D)
def Reach (C : Cfg) (k f : Nat) (p : List Nat) (nt : Nat) (body c : Code) (s : SB) : Prop :=
  ∃ σ, MB s.m σ ∧ ∀ r, codeA C (runA C k) f p k c (s.st nt σ) = some r → codeA C (runA C k) f p k body ⟨.l, nt, [], 0⟩ = some r
theorem reach_start {k f : Nat} {p : List Nat} {nt : Nat} {body : Code} : Reach C k f p nt body body ⟨.l, ⟨0, .l⟩, 0⟩ := ⟨[], MB.nil, fun r h => h⟩
include hD
theorem goB_sound {k f : Nat} {p : List Nat} {nt : Nat} {body : Code} : ∀ {n : Nat} {c : Code} {s r : SB}, Reach C k f p nt body c s → goB D (runB D k) f p nt k n c s = some r → Reach C k f p nt body (restC n c) r
  | 0, c, s, r, h, hp => by cases hp; exact h
  | n + 1, c, s, r, h, hp => by
    cases c <;> try cases hp
    rename_i a b
    simp only [goB] at hp
    split at hp
    · rename_i s' hs
      obtain ⟨σ, hm, hr⟩ := h
      obtain ⟨σ', g1, g2⟩ := codeB_sound hD (runB_sound hD k) f k a hm hs
      refine goB_sound (c := b) ⟨σ', g2, fun r hb => hr r ?_⟩ hp
      simp only [codeA, g1, Option.bind_some]
      exact hb
    · cases hp
theorem reach_seg {k f : Nat} {p : List Nat} {nt n : Nat} {body c : Code} {s s' : SB} (h : Reach C k f p nt body c s) (hs : segB D k f p nt n c s s' = true) : Reach C k f p nt body (restC n c) s' := by
  unfold segB at hs
  split at hs
  · rename_i r hr
    obtain ⟨σ, hm, hc⟩ := goB_sound hD h hr
    simp only [subS, Bool.and_eq_true] at hs
    obtain ⟨h1, h2, h3, h4⟩ := hs
    have e1 := treeV_eq h1
    have e2 := Nat.eq_of_beq_eq_true h2
    have e3 := Nat.eq_of_beq_eq_true h3
    refine ⟨σ, hm.sub e3 h4, fun x hx => hc x ?_⟩
    have : r.st nt σ = s'.st nt σ := by unfold SB.st; rw [e1, e2]
    rw [this]; exact hx
  · cases hs
noncomputable def endB (D : CB) (k f : Nat) (fn : Func) (p : List Nat) (c : Code) (s : SB) : Option V := (doneB D fn.results.toList (codeB D (runB D k) f p fn.ntmps k c s)).map (·.1)
theorem reach_end {k f : Nat} {fn : Func} {p : List Nat} {body c : Code} {s : SB} {b : Bool} (hb : fn.body = some body) (h : Reach C k f p fn.ntmps body c s) (he : endB D k f fn p c s = some (.b b))
    (q1 : C.prim f = none) (q2 : C.primM f = none) (q3 : C.bar f = false) (q4 : C.P.funcs[f]? = some fn) (q5 : C.keep f p = false) (q6 : C.esc f = []) :
    runA C (k + 1) f [] [] p = some (.b b, []) := by
  unfold endB at he
  simp only [Option.map_eq_some_iff] at he
  obtain ⟨⟨v, m⟩, h1, rfl⟩ := he
  unfold doneB at h1
  split at h1
  · cases h1
  · rename_i e s2 hne hcode
    simp only [Option.map_eq_some_iff, Prod.mk.injEq] at h1
    obtain ⟨vs, hvs, hv, rfl⟩ := h1
    obtain ⟨σ, hm, hr⟩ := h
    obtain ⟨σ', g1, g2⟩ := codeB_sound hD (runB_sound hD k) f k c hm hcode
    have g1 := hr _ g1
    have hres := resB_sound (nt := fn.ntmps) hD g2 hvs
    simp only [runA, q1, q2, q3, q4, hb, Bool.false_eq_true, if_false]
    have hnt : max ([] : List V).length fn.ntmps = fn.ntmps := Nat.zero_max _
    have g1' : codeA C (runA C k) f p k body ⟨T.ofList [], max ([] : List V).length fn.ntmps, [], 0⟩ = some (e, s2.st fn.ntmps σ') := by
      rw [hnt]; exact g1
    rw [g1']
    simp only [Option.bind_some]
    cases e with
    | exit i => exact absurd rfl (hne i)
    | normal =>
      simp only [doneA, hres, Option.map_some, q5, q6, Bool.false_eq_true, if_false, List.length_nil, escape, List.take_zero]
      rw [hv]; rfl
    | ret =>
      simp only [doneA, hres, Option.map_some, q5, q6, Bool.false_eq_true, if_false, List.length_nil, escape, List.take_zero]
      rw [hv]; rfl
  · cases h1
end
end Go.Am
