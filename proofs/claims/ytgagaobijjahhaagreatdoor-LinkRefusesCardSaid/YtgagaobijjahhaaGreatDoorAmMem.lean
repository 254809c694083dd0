/- Memory of the abstract machine and the model's world: what holds, and what steps keep. -/
import Derived.Test.YtgagaobijjahhaaGreatDoorAmRel
namespace Go.Am
open Go.RowKit
set_option linter.unusedVariables false
set_option linter.unusedSimpArgs false

section
variable {M M' : Mp} {w w' : World}
theorem rel_ofVal (y : Value) : Rel M w (ofVal y) y := by
  unfold ofVal
  split
  · rename_i cs
    split
    · rename_i h
      have := RelL.map_ev (M := M) (w := w) cs.toList ofVal1 id (fun x _ => rel_ofVal1 x)
      have h2 := Rel.agg (M := M) (w := w) (cs.toList.map ofVal1) cs.toList (fun x hx => List.all_eq_true.1 h x hx) (by simpa using this)
      simpa using h2
    · exact .bad _
  · exact rel_ofVal1 _
theorem toVal1_eq {v : V} {u y : Value} (h : toVal1 v = some u) (hr : Rel M w v y) : y = u := by
  cases hr <;> simp_all [toVal1]
  rename_i t v y h1
  cases v <;> simp_all
  cases h1
  simp_all
theorem toVals_eq {xs : List V} : ∀ {us ys : List Value}, toVals xs = some us → RelL M w xs ys → ys = us := by
  induction xs with
  | nil => intro us ys h hr; cases hr; simpa [toVals] using h
  | cons x xs ih =>
    intro us ys h hr
    cases hr with
    | cons _ y _ ys h1 h2 =>
      simp only [toVals, Option.bind_eq_some_iff, Option.some.injEq] at h
      obtain ⟨a, ha, l, hl, rfl⟩ := h
      rw [toVal1_eq ha h1, ih hl h2]
theorem toVal_eq {v : V} {u y : Value} (h : toVal v = some u) (hr : Rel M w v y) : y = u := by
  cases hr with
  | agg cs vs ho hl =>
    simp only [toVal, Option.map_eq_some_iff] at h
    obtain ⟨l, hl', rfl⟩ := h
    rw [toVals_eq hl' hl]
  | bad => simp [toVal, toVal1] at h
  | _ => exact toVal1_eq (M := M) (w := w) (by simpa [toVal] using h) (by constructor <;> assumption)

theorem pureRun_ok {α : Type} (P : Program) (m : Sem α) (a : α) (h : pureRun P m = some a) (w : World) : m.run P w = .ok a w := by
  induction m with
  | pure x => simp [pureRun] at h; subst h; rfl
  | program k ih => simp only [pureRun] at h; simp only [Sem.run]; exact ih _ h
  | _ => simp [pureRun] at h

def O.st : O → Option (List Nat)
  | .cells st _ => some st
  | .map st _ => some st
  | .dead => none

def unmarked (w : World) (b : Nat) : Prop := ∃ e k, w.shape? b = some (e, k) ∧ w.frozen? ⟨b, k, none⟩ = false
theorem unmarked_of {b : Nat} (hk : w'.heap[b]? = w.heap[b]?) (h : unmarked w b) : unmarked w' b := by
  obtain ⟨e, k, h1, h2⟩ := h
  exact ⟨e, k, by simpa [World.shape?, hk] using h1, by simpa [World.frozen?, hk] using h2⟩
def okMark (w : World) (b n : Nat) : Prop := ∃ c e lo hi, w.heap[b]? = some (.cells c e (lo, hi)) ∧ (lo = hi ∨ n ≤ lo) ∧ n ≤ c.size ∧ (marks = true ∨ unmarked w b)
theorem okMark_of {b n : Nat} (hk : w'.heap[b]? = w.heap[b]?) (h : okMark w b n) : okMark w' b n := by
  obtain ⟨c, e, lo, hi, h1, h2, h4, h3⟩ := h
  exact ⟨c, e, lo, hi, by rw [hk]; exact h1, h2, h4, h3.imp_right fun h => unmarked_of hk h⟩
def ObjRel (M : Mp) (w : World) : O → Prop
  | .cells st cs => ∀ b n, M.m st = some (b, n) → cs.length ≤ n ∧ (∀ x ∈ cs, x.one = true) ∧
      (∀ j, j < n → ∃ y, w.cell? ⟨b, j, none⟩ = some y ∧ w.frozen? ⟨b, j, none⟩ = false ∧ (cs.length ≤ j → (ofVal1 y).one = true) ∧ okMark w b n) ∧
      (∀ j x, cs[j]? = some x → ∃ y, w.cell? ⟨b, j, none⟩ = some y ∧ Rel M w x y)
  | .map st kvs => ∀ b n, M.m st = some (b, n) → ∃ es clock, w.heap[b]? = some (.map es clock) ∧ es.size = kvs.length ∧
      (∀ (j : Nat) k v, kvs[j]? = some (k, v) → ∃ e, es[j]? = some e ∧ Rel M w k e.key ∧ Rel M w v e.val)
  | .dead => True

structure Sep (B0 : Nat) (M : Mp) (σ : List O) (w : World) : Prop where
  apart : ∀ (r r' : Nat) o o' st st' b n n', σ[r]? = some o → σ[r']? = some o' → r ≠ r' → o.st = some st → o'.st = some st' → M.m st = some (b, n) → M.m st' ≠ some (b, n')
  live : ∀ (r : Nat) o st b n, σ[r]? = some o → o.st = some st → M.m st = some (b, n) → ¬ M.F b
  lt : ∀ st b n, M.m st = some (b, n) → b < w.heap.size ∧ B0 ≤ b
  flt : ∀ b, M.F b → b < w.heap.size
  base : B0 ≤ w.heap.size
def Mine (p : List Nat) (c : Nat) (st : List Nat) : Prop := ∃ q, st = q ++ (c :: p)
structure Fr (M : Mp) (σ : List O) (p : List Nat) (c : Nat) : Prop where
  m : ∀ st, Mine p c st → M.m st = none
  s : ∀ (r : Nat) o st, σ[r]? = some o → o.st = some st → ¬ Mine p c st

structure Post (B0 : Nat) (N : Nat → Prop) (W : Nat → Prop) (p : List Nat) (M M' : Mp) (σ σ' : List O) (c : Nat) (w w' : World) : Prop where
  ext : Ext B0 M M' w w'
  sep : Sep B0 M' σ' w'
  obj : ∀ (r : Nat) o, (N r ∨ σ.length ≤ r) → σ'[r]? = some o → ObjRel M' w' o
  same : ∀ r, r < σ.length → ¬ W r → σ'[r]? = σ[r]?
  blocks : ∀ (r : Nat) (o : O) (st : List Nat) (b n : Nat), ¬ W r → σ[r]? = some o → o.st = some st → M.m st = some (b, n) → w'.heap[b]? = w.heap[b]?
  len : σ.length ≤ σ'.length
  names : ∀ st x, M'.m st = some x → M.m st = some x ∨ Mine p c st
  onames : ∀ (r : Nat) o st, σ'[r]? = some o → o.st = some st → (∃ o', σ[r]? = some o' ∧ o'.st = some st) ∨ Mine p c st

theorem ObjRel.mono {B0 : Nat} (e : Ext B0 M M' w w') {o : O} (h : ObjRel M w o) (hm : ∀ st, o.st = some st → M'.m st = M.m st)
    (hb : ∀ st b n, o.st = some st → M.m st = some (b, n) → w'.heap[b]? = w.heap[b]?) : ObjRel M' w' o := by
  cases o with
  | dead => trivial
  | cells st cs =>
    intro b n hn
    have hn' : M.m st = some (b, n) := by rw [← hm st rfl]; exact hn
    obtain ⟨h1, h2, h3, h4⟩ := h b n hn'
    have hk := hb st b n rfl hn'
    refine ⟨h1, h2, fun j hj => ?_, fun j x hx => ?_⟩
    · obtain ⟨y, hy, hf, h5, h6⟩ := h3 j hj
      exact ⟨y, by rw [World.cell?_of_block (w := w) hk]; exact hy, by rw [World.frozen?_of_block (w := w) hk]; exact hf, h5, okMark_of hk h6⟩
    · obtain ⟨y, hy, hr⟩ := h4 j x hx
      exact ⟨y, by rw [World.cell?_of_block (w := w) hk]; exact hy, hr.mono e⟩
  | map st kvs =>
    intro b n hn
    have hn' : M.m st = some (b, n) := by rw [← hm st rfl]; exact hn
    obtain ⟨es, cl, h1, h2, h3⟩ := h b n hn'
    refine ⟨es, cl, by rw [hb st b n rfl hn']; exact h1, h2, fun j k v hj => ?_⟩
    obtain ⟨e', g1, g2, g3⟩ := h3 j k v hj
    exact ⟨e', g1, g2.mono e, g3.mono e⟩

theorem Post.pure {B0 : Nat} {N W : Nat → Prop} {p : List Nat} {σ : List O} {c : Nat} (hs : Sep B0 M σ w) (ho : ∀ (r : Nat) o, N r → σ[r]? = some o → ObjRel M w o)
    (hh : w'.heap = w.heap) (hb : Below B0 w w') : Post B0 N W p M M σ σ c w w' := by
  have e : Ext B0 M M w w' := ⟨fun _ _ h => h, fun _ h => h, fun _ _ => by rw [hh], hb⟩
  refine ⟨e, ⟨hs.apart, hs.live, by rw [hh]; exact hs.lt, by rw [hh]; exact hs.flt, by rw [hh]; exact hs.base⟩, fun r o hr h => ?_, fun _ _ _ => rfl, fun _ _ _ _ _ _ _ _ _ => by rw [hh], Nat.le_refl _, fun st x h => .inl h, fun r o st h h' => .inl ⟨o, h, h'⟩⟩
  rcases hr with hr | hr
  · exact (ho r o hr h).mono e (fun _ _ => rfl) (fun _ _ _ _ _ => by rw [hh])
  · simp [List.getElem?_eq_none hr] at h

theorem snoc_get {α : Type} {σ : List α} {o o' : α} {r : Nat} (h : (σ ++ [o])[r]? = some o') : (r < σ.length ∧ σ[r]? = some o') ∨ (r = σ.length ∧ o' = o) := by
  by_cases hr : r < σ.length
  · exact .inl ⟨hr, by rwa [List.getElem?_append_left hr] at h⟩
  · rw [List.getElem?_append_right (by omega)] at h
    have : r - σ.length = 0 := by
      rcases Nat.eq_zero_or_pos (r - σ.length) with h0 | h0
      · exact h0
      · rw [List.getElem?_eq_none (by simp; omega)] at h; cases h
    rw [this] at h
    exact .inr ⟨by omega, by simpa using h.symm⟩

theorem Post.alloc {B0 : Nat} {N W : Nat → Prop} {p : List Nat} {σ : List O} {c : Nat} (hs : Sep B0 M σ w) (ho : ∀ (r : Nat) o, N r → σ[r]? = some o → ObjRel M w o)
    (hf : Fr M σ p c) (o : O) (n : Nat) (hst : o.st = some (c :: p)) (hw : w'.heap.size = w.heap.size + 1) (hold : ∀ b, b < w.heap.size → w'.heap[b]? = w.heap[b]?) (hb : Below B0 w w')
    (hnew : ∀ M1, Ext B0 M M1 w w' → (M1.m (c :: p) = some (w.heap.size, n)) → ObjRel M1 w' o) :
    ∃ M', M'.m (c :: p) = some (w.heap.size, n) ∧ Post B0 N W p M M' σ (σ ++ [o]) c w w' := by
  classical
  have hmine : Mine p c (c :: p) := ⟨[], rfl⟩
  have hnone : M.m (c :: p) = none := hf.m _ hmine
  let M' : Mp := { m := fun st => if st = c :: p then some (w.heap.size, n) else M.m st, F := M.F }
  have hm' : ∀ st, st ≠ c :: p → M'.m st = M.m st := fun st h => by simp [M', h]
  have e : Ext B0 M M' w w' := ⟨fun st x h => by rw [hm' st (by intro e; rw [e, hnone] at h; cases h)]; exact h, fun _ h => h, fun b h => hold b (hs.flt b h), hb⟩
  have hme : M'.m (c :: p) = some (w.heap.size, n) := by simp [M']
  have hold' : ∀ (r : Nat) o1 st, σ[r]? = some o1 → o1.st = some st → M'.m st = M.m st := fun r o1 st h1 h2 => hm' st (by rintro rfl; exact hf.s r o1 _ h1 h2 hmine)
  have hcases : ∀ st x, M'.m st = some x → (st ≠ c :: p ∧ M.m st = some x) ∨ (st = c :: p ∧ x = (w.heap.size, n)) := by
    intro st x h
    by_cases e1 : st = c :: p
    · subst e1; rw [hme] at h; exact .inr ⟨rfl, by simpa using h.symm⟩
    · exact .inl ⟨e1, by rw [hm' st e1] at h; exact h⟩
  refine ⟨M', hme, e, ⟨?_, ?_, ?_, ?_, ?_⟩, ?_, ?_, ?_, by simp, ?_, ?_⟩
  · intro r r' o1 o2 st st' b n1 n2 h1 h2 hne hs1 hs2 hm1 hm2
    rcases snoc_get h1 with ⟨hr, g1⟩ | ⟨rfl, rfl⟩ <;> rcases snoc_get h2 with ⟨hr', g2⟩ | ⟨rfl, rfl⟩
    · rw [hold' r o1 st g1 hs1] at hm1
      rw [hold' r' o2 st' g2 hs2] at hm2
      exact hs.apart r r' o1 o2 _ _ b n1 n2 g1 g2 hne hs1 hs2 hm1 hm2
    · rw [hold' r o1 st g1 hs1] at hm1
      rw [hst] at hs2; cases hs2
      rw [hme] at hm2; cases hm2
      have := (hs.lt _ _ _ hm1).1; omega
    · rw [hold' r' o2 st' g2 hs2] at hm2
      rw [hst] at hs1; cases hs1
      rw [hme] at hm1; cases hm1
      have := (hs.lt _ _ _ hm2).1; omega
    · omega
  · intro r o1 st b n1 h1 h2 h3 hF
    rcases snoc_get h1 with ⟨hr, g1⟩ | ⟨rfl, rfl⟩
    · rw [hold' r o1 st g1 h2] at h3
      exact hs.live r o1 st b n1 g1 h2 h3 hF
    · rw [hst] at h2; cases h2
      rw [hme] at h3; cases h3
      have := hs.flt _ hF; omega
  · intro st b n1 h
    rcases hcases st _ h with ⟨_, h⟩ | ⟨_, h⟩
    · have := hs.lt _ _ _ h; omega
    · cases h; have := hs.base; omega
  · intro b h
    have := hs.flt b h; omega
  · have := hs.base; omega
  · intro r o1 hr h1
    rcases snoc_get h1 with ⟨hr', g1⟩ | ⟨rfl, rfl⟩
    · rcases hr with hr | hr
      · refine (ho r o1 hr g1).mono e (fun st h => hold' r o1 st g1 h) (fun st b n1 h h' => hold b (hs.lt _ _ _ h').1)
      · omega
    · exact hnew M' e hme
  · intro r hr _
    rw [List.getElem?_append_left hr]
  · intro r o1 st b n1 _ h1 h2 h3
    exact hold b (hs.lt _ _ _ h3).1
  · intro st x h
    rcases hcases st _ h with ⟨_, h⟩ | ⟨rfl, _⟩
    · exact .inl h
    · exact .inr hmine
  · intro r o1 st h1 h2
    rcases snoc_get h1 with ⟨hr', g1⟩ | ⟨rfl, rfl⟩
    · exact .inl ⟨o1, g1, h2⟩
    · rw [hst] at h2; cases h2; exact .inr hmine

theorem Post.write {B0 : Nat} {N W : Nat → Prop} {p : List Nat} {σ : List O} {c : Nat} (hs : Sep B0 M σ w) (ho : ∀ (r : Nat) o, N r → σ[r]? = some o → ObjRel M w o)
    (r : Nat) (o o' : O) (st : List Nat) (b n : Nat) (hr : σ[r]? = some o) (hst : o.st = some st) (hst' : o'.st = some st) (hm : M.m st = some (b, n)) (hW : W r)
    (hw : w'.heap.size = w.heap.size) (hold : ∀ k, k ≠ b → w'.heap[k]? = w.heap[k]?) (hb : Below B0 w w')
    (hnew : Ext B0 M M w w' → ObjRel M w' o') : Post B0 N W p M M σ (σ.set r o') c w w' := by
  have hrl : r < σ.length := by
    rcases Nat.lt_or_ge r σ.length with h | h
    · exact h
    · simp [List.getElem?_eq_none h] at hr
  have hnF : ¬ M.F b := hs.live r o st b n hr hst hm
  have e : Ext B0 M M w w' := ⟨fun _ _ h => h, fun _ h => h, fun k h => hold k (by rintro rfl; exact hnF h), hb⟩
  have hget : ∀ (r1 : Nat) o1, (σ.set r o')[r1]? = some o1 → (r1 = r ∧ o1 = o') ∨ (r1 ≠ r ∧ σ[r1]? = some o1) := by
    intro r1 o1 h
    by_cases e1 : r1 = r
    · subst e1; rw [List.getElem?_set_self hrl] at h; exact .inl ⟨rfl, by simpa using h.symm⟩
    · rw [List.getElem?_set_ne (Ne.symm e1)] at h; exact .inr ⟨e1, h⟩
  have hstamp : ∀ (r1 : Nat) o1 st1, (σ.set r o')[r1]? = some o1 → o1.st = some st1 → ∃ o2, σ[r1]? = some o2 ∧ o2.st = some st1 := by
    intro r1 o1 st1 h h'
    rcases hget r1 o1 h with ⟨rfl, rfl⟩ | ⟨_, h⟩
    · rw [hst'] at h'; cases h'; exact ⟨o, hr, hst⟩
    · exact ⟨o1, h, h'⟩
  refine ⟨e, ⟨?_, ?_, by rw [hw]; exact hs.lt, by rw [hw]; exact hs.flt, by rw [hw]; exact hs.base⟩, ?_, ?_, ?_, by simp, fun st x h => .inl h, ?_⟩
  · intro r1 r2 o1 o2 st1 st2 b1 n1 n2 h1 h2 hne hs1 hs2
    obtain ⟨o3, g3, g3'⟩ := hstamp r1 o1 st1 h1 hs1
    obtain ⟨o4, g4, g4'⟩ := hstamp r2 o2 st2 h2 hs2
    exact hs.apart r1 r2 o3 o4 _ _ b1 n1 n2 g3 g4 hne g3' g4'
  · intro r1 o1 st1 b1 n1 h1 h2
    obtain ⟨o3, g3, g3'⟩ := hstamp r1 o1 st1 h1 h2
    exact hs.live r1 o3 st1 b1 n1 g3 g3'
  · intro r1 o1 hN h1
    rcases hget r1 o1 h1 with ⟨rfl, rfl⟩ | ⟨hne, h1⟩
    · exact hnew e
    · rcases hN with hN | hN
      · refine (ho r1 o1 hN h1).mono e (fun _ _ => rfl) (fun st1 b1 n1 g1 g2 => hold b1 ?_)
        rintro rfl
        exact hs.apart r1 r o1 o st1 st b1 n1 n h1 hr hne g1 hst g2 hm
      · have hl : r1 < σ.length := by
          rcases Nat.lt_or_ge r1 σ.length with h | h
          · exact h
          · simp [List.getElem?_eq_none h] at h1
        omega
  · intro r1 h1 h2
    rw [List.getElem?_set_ne (by rintro rfl; exact h2 hW)]
  · intro r1 o1 st1 b1 n1 h1 h2 h3 h4
    refine hold b1 ?_
    rintro rfl
    exact hs.apart r1 r o1 o st1 st b1 n1 n h2 hr (by rintro rfl; exact h1 hW) h3 hst h4 hm
  · intro r1 o1 st1 h1 h2
    obtain ⟨o3, g3, g3'⟩ := hstamp r1 o1 st1 h1 h2
    exact .inl ⟨o3, g3, g3'⟩

theorem Post.regrow {B0 : Nat} {N W : Nat → Prop} {p : List Nat} {σ : List O} {c : Nat} (hs : Sep B0 M σ w) (ho : ∀ (r : Nat) o, N r → σ[r]? = some o → ObjRel M w o)
    (hf : Fr M σ p c) (r : Nat) (o o' : O) (st : List Nat) (b n b' n' : Nat) (hr : σ[r]? = some o) (hst : o.st = some st) (hst' : o'.st = some (c :: p)) (hm : M.m st = some (b, n)) (hW : W r)
    (hw : (b' = b ∧ w'.heap.size = w.heap.size) ∨ (b' = w.heap.size ∧ w'.heap.size = w.heap.size + 1)) (hold : ∀ k, k < w.heap.size → k ≠ b' → w'.heap[k]? = w.heap[k]?) (hb : Below B0 w w')
    (hnew : ∀ M1, Ext B0 M M1 w w' → (M1.m (c :: p) = some (b', n')) → ObjRel M1 w' o') :
    ∃ M', M'.m (c :: p) = some (b', n') ∧ Post B0 N W p M M' σ (σ.set r o') c w w' := by
  classical
  have hmine : Mine p c (c :: p) := ⟨[], rfl⟩
  have hnone : M.m (c :: p) = none := hf.m _ hmine
  have hrl : r < σ.length := by
    rcases Nat.lt_or_ge r σ.length with h | h
    · exact h
    · simp [List.getElem?_eq_none h] at hr
  have hbl := hs.lt _ _ _ hm
  let M' : Mp := { m := fun st => if st = c :: p then some (b', n') else M.m st, F := M.F }
  have hm' : ∀ st, st ≠ c :: p → M'.m st = M.m st := fun st h => by simp [M', h]
  have hnF : ∀ k, M.F k → k ≠ b' := by
    intro k hk e
    subst e
    rcases hw with ⟨e1, _⟩ | ⟨e1, _⟩
    · rw [e1] at hk; exact hs.live r o st b n hr hst hm hk
    · have := hs.flt _ hk; omega
  have e : Ext B0 M M' w w' := ⟨fun st x h => by rw [hm' st (by intro e; rw [e, hnone] at h; cases h)]; exact h, fun _ h => h, fun k h => hold k (hs.flt k h) (hnF k h), hb⟩
  have hme : M'.m (c :: p) = some (b', n') := by simp [M']
  have hold' : ∀ (r : Nat) o1 st, σ[r]? = some o1 → o1.st = some st → M'.m st = M.m st := fun r o1 st h1 h2 => hm' st (by rintro rfl; exact hf.s r o1 _ h1 h2 hmine)
  have hcases : ∀ st x, M'.m st = some x → (st ≠ c :: p ∧ M.m st = some x) ∨ (st = c :: p ∧ x = (b', n')) := by
    intro st x h
    by_cases e1 : st = c :: p
    · subst e1; rw [hme] at h; exact .inr ⟨rfl, by simpa using h.symm⟩
    · exact .inl ⟨e1, by rw [hm' st e1] at h; exact h⟩
  have hget : ∀ (r1 : Nat) o1, (σ.set r o')[r1]? = some o1 → (r1 = r ∧ o1 = o') ∨ (r1 ≠ r ∧ σ[r1]? = some o1) := by
    intro r1 o1 h
    by_cases e1 : r1 = r
    · subst e1; rw [List.getElem?_set_self hrl] at h; exact .inl ⟨rfl, by simpa using h.symm⟩
    · rw [List.getElem?_set_ne (Ne.symm e1)] at h; exact .inr ⟨e1, h⟩
  have hapart : ∀ (r1 : Nat) o1 st1 n1, r1 ≠ r → σ[r1]? = some o1 → o1.st = some st1 → M.m st1 ≠ some (b', n1) := by
    intro r1 o1 st1 n1 hne h1 h2 h3
    rcases hw with ⟨e1, _⟩ | ⟨e1, _⟩
    · rw [e1] at h3; exact hs.apart r1 r o1 o st1 st b n1 n h1 hr hne h2 hst h3 hm
    · have := (hs.lt _ _ _ h3).1; omega
  refine ⟨M', hme, e, ⟨?_, ?_, ?_, ?_, ?_⟩, ?_, ?_, ?_, by simp, ?_, ?_⟩
  · intro r1 r2 o1 o2 st1 st2 b1 n1 n2 h1 h2 hne hs1 hs2 hm1 hm2
    rcases hget r1 o1 h1 with ⟨rfl, rfl⟩ | ⟨q1, g1⟩ <;> rcases hget r2 o2 h2 with ⟨rfl, rfl⟩ | ⟨q2, g2⟩
    · exact hne rfl
    · rw [hst'] at hs1; cases hs1
      rw [hme] at hm1; cases hm1
      rw [hold' r2 o2 st2 g2 hs2] at hm2
      exact hapart r2 o2 st2 _ q2 g2 hs2 hm2
    · rw [hst'] at hs2; cases hs2
      rw [hme] at hm2; cases hm2
      rw [hold' r1 o1 st1 g1 hs1] at hm1
      exact hapart r1 o1 st1 _ q1 g1 hs1 hm1
    · rw [hold' r1 o1 st1 g1 hs1] at hm1
      rw [hold' r2 o2 st2 g2 hs2] at hm2
      exact hs.apart r1 r2 o1 o2 _ _ b1 n1 n2 g1 g2 hne hs1 hs2 hm1 hm2
  · intro r1 o1 st1 b1 n1 h1 h2 h3 hF
    rcases hget r1 o1 h1 with ⟨rfl, rfl⟩ | ⟨q1, g1⟩
    · rw [hst'] at h2; cases h2
      rw [hme] at h3; cases h3
      exact hnF _ hF rfl
    · rw [hold' r1 o1 st1 g1 h2] at h3
      exact hs.live r1 o1 st1 b1 n1 g1 h2 h3 hF
  · intro st1 b1 n1 h
    rcases hcases st1 _ h with ⟨_, h⟩ | ⟨_, h⟩
    · have := hs.lt _ _ _ h; omega
    · cases h; have := hs.base; omega
  · intro k h
    have := hs.flt k h; omega
  · have := hs.base; omega
  · intro r1 o1 hN h1
    rcases hget r1 o1 h1 with ⟨rfl, rfl⟩ | ⟨hne, h1⟩
    · exact hnew M' e hme
    · rcases hN with hN | hN
      · refine (ho r1 o1 hN h1).mono e (fun st1 h => hold' r1 o1 st1 h1 h) (fun st1 b1 n1 g1 g2 => hold b1 (hs.lt _ _ _ g2).1 ?_)
        rintro rfl
        exact hapart r1 o1 st1 n1 hne h1 g1 g2
      · have hl : r1 < σ.length := by
          rcases Nat.lt_or_ge r1 σ.length with h | h
          · exact h
          · simp [List.getElem?_eq_none h] at h1
        omega
  · intro r1 h1 h2
    rw [List.getElem?_set_ne (by rintro rfl; exact h2 hW)]
  · intro r1 o1 st1 b1 n1 h1 h2 h3 h4
    refine hold b1 (hs.lt _ _ _ h4).1 ?_
    rintro rfl
    exact hapart r1 o1 st1 n1 (by rintro rfl; exact h1 hW) h2 h3 h4
  · intro st1 x h
    rcases hcases st1 _ h with ⟨_, h⟩ | ⟨rfl, _⟩
    · exact .inl h
    · exact .inr hmine
  · intro r1 o1 st1 h1 h2
    rcases hget r1 o1 h1 with ⟨rfl, rfl⟩ | ⟨hne, h1⟩
    · rw [hst'] at h2; cases h2; exact .inr hmine
    · exact .inl ⟨o1, h1, h2⟩
end
end Go.Am
