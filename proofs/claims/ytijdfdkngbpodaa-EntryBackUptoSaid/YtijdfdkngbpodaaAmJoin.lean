/- strings.Join, told by its contract. -/
import Derived.Test.YtijdfdkngbpodaaAmPrim
import Derived.Shelf.Strings.OnBuilder
namespace Go.Am
open Go Go.RowKit
set_option linter.unusedVariables false
set_option linter.unusedSimpArgs false
def strsOf : List V → Option (List ByteArray)
  | [] => some []
  | .s b :: l => (strsOf l).map (b :: ·)
  | _ => none
def strs (l : List ByteArray) : List V := l.map V.s
theorem strsOf_strs (l : List ByteArray) : strsOf (strs l) = some l := by
  induction l with
  | nil => rfl
  | cons a l ih => simp only [strs, List.map_cons, strsOf] at ih ⊢; rw [ih]; rfl
theorem strsOf_some : ∀ {cs : List V} {l : List ByteArray}, strsOf cs = some l → cs = strs l
  | [], l, h => by simp [strsOf] at h; subst h; rfl
  | c :: cs, l, h => by
    cases c <;> simp [strsOf] at h
    obtain ⟨l', h1, rfl⟩ := h
    rw [strsOf_some h1]; rfl
def joinB (l : List ByteArray) (sep : ByteArray) : ByteArray := ⟨(Lib.join (l.map (·.data.toList)) sep.data.toList).toArray⟩
def isS : V → Bool
  | .s _ => true
  | _ => false
def pJoin : List V → List O → Option V
  | [x, .s sep], σ => (elems 1 σ x).bind fun e => (strsOf e.2).bind fun l => if isS x = false ∧ l.length = e.1 ∧ l.length ≤ 140737488355328 ∧ (Lib.join (l.map (·.data.toList)) sep.data.toList).length ≤ 140737488355328 then some (.s (joinB l sep)) else none
  | _, _ => none
theorem cell_block {w : World} {a : Addr} {v : Value} (h : w.cell? a = some v) : a.block < w.heap.size := by
  unfold World.cell? at h
  cases hb : w.heap[a.block]? with
  | none => rw [hb] at h; simp at h
  | some o => exact (Array.getElem?_eq_some_iff.1 hb).1
theorem prim_calls {C : Cfg} {f : Nat} {fn : Func} {c : Code} (hname : (fn.name != "runtime.NumGoroutine") = true) (hf : C.P.funcs[f]? = some fn) (hb : fn.body = some c) {g : List V → List O → Option V}
    (h : ∀ (B0 : Nat) (M : Mp) (w : World) (args : List V) (σ : List O) (cargs : List Value) (v : V), g args σ = some v → MR B0 M σ w → RelL M w args cargs → Calls C.P f cargs.toArray w fun e w' => ∃ y, e = .returned y ∧ Rel M w v y ∧ Below w.heap.size w w') : PrimAt C f g := by
  intro B0 args σ p v hv M w cargs hM hG hr hm hs
  refine ⟨_, w, M, run_callFunc hname hf hb _ w, Ext.refl _ _ _, hM, rfl, .inr ⟨rfl, ?_⟩⟩
  refine (h B0 M w args σ cargs v hv hM hr).mono fun e w' ⟨y, he, hy, hbel⟩ => ?_
  have hk : ∀ b, b < w.heap.size → w'.heap[b]? = w.heap[b]? := fun b hb => hbel.block b hb
  have hE : Ext B0 M M w w' := ⟨fun _ _ h => h, fun _ h => h, fun b hF => hk b (hM.sep.flt b hF), ⟨hbel.os, hbel.tape, hbel.output, hbel.size, fun k hk' => hk k (Nat.lt_of_lt_of_le hk' hM.sep.base)⟩⟩
  refine ⟨M, y, he, hy.mono hE, hE, ⟨⟨hM.sep.apart, hM.sep.live, fun st b n h => ⟨Nat.lt_of_lt_of_le (hM.sep.lt st b n h).1 hbel.size, (hM.sep.lt st b n h).2⟩, fun b h => Nat.lt_of_lt_of_le (hM.sep.flt b h) hbel.size, Nat.le_trans hM.sep.base hbel.size⟩, fun r o ho => (hM.obj r o ho).mono hE (fun _ _ => rfl) fun st b n _ hmm => hk b (hM.sep.lt st b n hmm).1⟩, Nat.le_refl _, fun st x h => .inl h, fun r o st h1 h2 => .inl ⟨r, o, h1, h2⟩⟩
theorem prim_join {C : Cfg} {f : Nat} {fn : Func} {c : Code} (hname : (fn.name != "runtime.NumGoroutine") = true) (hf : C.P.funcs[f]? = some fn) (hb : fn.body = some c)
    (j0 : ∀ (a : Option Addr) (k : Nat) (sep : ByteArray) (w : World), Calls C.P f #[.slice a 0 k, .string sep] w fun e w' => e = .returned (.string ⟨#[]⟩) ∧ w' = w)
    (j1 : ∀ (bk o k : Nat) (xs : List ByteArray) (sep : ByteArray) (w : World), (∀ (j : Nat) x, xs[j]? = some x → w.cell? ⟨bk, o + j, none⟩ = some (.string x)) → bk < w.heap.size → xs.length ≤ 140737488355328 → xs.length ≤ k →
      (Lib.join (xs.map (·.data.toList)) sep.data.toList).length ≤ 140737488355328 →
      Calls C.P f #[.slice (some ⟨bk, o, none⟩) xs.length k, .string sep] w fun e w' => e = .returned (.string ⟨(Lib.join (xs.map (·.data.toList)) sep.data.toList).toArray⟩) ∧ Below w.heap.size w w') : PrimAt C f pJoin := by
  refine prim_calls hname hf hb fun B0 M w args σ cargs v hv hM hr => ?_
  unfold pJoin at hv
  split at hv
  · rename_i x sep
    simp only [Option.bind_eq_some_iff] at hv
    obtain ⟨⟨n, cs⟩, he, l, hl, hv⟩ := hv
    split at hv
    · rename_i hc
      cases hv
      obtain ⟨c0, c1, c2, c3⟩ := hc
      obtain rfl := strsOf_some hl
      simp only at c1 he
      subst c1
      cases hr with
      | cons _ y _ ys h1 h2 =>
        cases h2 with
        | cons _ y2 _ ys2 h3 h4 =>
          cases h4
          obtain rfl := h3.s_inv
          have fin : ∀ (a : Addr) (k : Nat), l.length ≤ k → y = .slice (some a) l.length k → (∀ j b, l[j]? = some b → ∃ u, w.cell? (a.add j) = some u ∧ Rel M w (.s b) u) →
              Calls C.P f [y, .string sep].toArray w fun e w' => ∃ y, e = .returned y ∧ Rel M w (.s (joinB l sep)) y ∧ Below w.heap.size w w' := by
            intro a k hk hy hcell
            subst hy
            by_cases h0 : l = []
            · subst h0
              exact (j0 (some a) k sep w).mono fun e w' ⟨he, hw⟩ => ⟨_, he, .s _, by rw [hw]; exact Below.refl _ _⟩
            · obtain ⟨b0, hb0⟩ : ∃ b, l[0]? = some b := by
                cases l with
                | nil => exact absurd rfl h0
                | cons b l => exact ⟨b, rfl⟩
              obtain ⟨u, hu, _⟩ := hcell 0 b0 hb0
              have hadd : a.add 0 = a := by simp [Addr.add]
              rw [hadd] at hu
              have hsp := World.cell?_spot hu
              obtain ⟨bk, o, sp⟩ := a
              simp only at hsp
              subst hsp
              refine (j1 bk o k l sep w (fun j b hj => ?_) (cell_block hu) c2 hk c3).mono fun e w' ⟨he, hw⟩ => ⟨_, he, .s _, hw⟩
              obtain ⟨u, hu, hr⟩ := hcell j b hj
              rw [← hr.s_inv, ← hu]
              congr 1
              unfold Addr.add
              split
              · rename_i hj0; subst hj0; rfl
              · rfl
          cases x <;> simp only [elems, reduceCtorEq, Option.some.injEq, Prod.mk.injEq, Option.map_eq_some_iff] at he
          · simp [isS] at c0
          · obtain ⟨he1, he2⟩ := he
            have : l = [] := List.eq_nil_of_length_eq_zero he1.symm
            subst this
            obtain rfl := h1.nils_inv
            exact (j0 none 0 sep w).mono fun e w' ⟨he, hw⟩ => ⟨_, he, .s _, by rw [hw]; exact Below.refl _ _⟩
          · rename_i r st o len es cap
            split at he
            · rename_i hes
              subst hes
              simp only [Option.bind_eq_some_iff, Option.map_eq_some_iff, Prod.mk.injEq] at he
              obtain ⟨row, hrow, _, ht, rfl, rfl⟩ := he
              obtain ⟨b, n', k, hm, rfl, hk, _, _⟩ := h1.sl_inv
              refine fin ⟨b, o, none⟩ k hk rfl fun j bb hj => ?_
              unfold rowAt at hrow
              split at hrow
              · rename_i st' cs' hs
                split at hrow
                · rename_i est
                  cases hrow
                  subst est
                  obtain ⟨_, _, _, g⟩ := hM.obj r _ hs b n' hm
                  unfold take? at ht
                  split at ht
                  · simp only [Option.some.injEq] at ht
                    have hjl : (strs l)[j]? = some (.s bb) := by simp [strs, hj]
                    rw [← ht, List.getElem?_take] at hjl
                    split at hjl
                    · rw [List.getElem?_drop] at hjl
                      obtain ⟨u, hu, hru⟩ := g (o + j) _ hjl
                      refine ⟨u, ?_, hru⟩
                      rw [← hu]
                      unfold Addr.add
                      split
                      · rename_i hj0; subst hj0; rfl
                      · rfl
                    · cases hjl
                  · cases ht
                · cases hrow
              · cases hrow
            · simp at he
          · rename_i cs len cl
            obtain ⟨_, ht, rfl, rfl⟩ := he
            obtain ⟨a, vs, k, rfl, _, _, hrl, hcl, hk, _⟩ := h1.arr_inv
            refine fin a k hk rfl fun j bb hj => ?_
            unfold take? at ht
            split at ht
            · simp only [Option.some.injEq, List.drop_zero] at ht
              have hjl : (strs l)[j]? = some (.s bb) := by simp [strs, hj]
              rw [← ht, List.getElem?_take] at hjl
              split at hjl
              · obtain ⟨u, hu, hru⟩ := hrl.get hjl
                exact ⟨u, hcl j u hu, hru⟩
              · cases hjl
            · cases ht
    · cases hv
  · cases hv
end Go.Am
