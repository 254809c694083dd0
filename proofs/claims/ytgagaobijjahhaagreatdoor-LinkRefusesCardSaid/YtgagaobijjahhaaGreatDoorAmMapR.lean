/- Maps that a frame has made itself, and ranges over them: blocks that nobody else changes. -/
import Derived.Test.YtgagaobijjahhaaGreatDoorAmRun
import Derived.Laws.IdiomRangeMap
namespace Go.Am
set_option linter.unusedVariables false
set_option linter.unusedSimpArgs false
theorem run_next_gen {P : Program} (w : World) (ty : TypeId) (li bm since c0 : Nat) (seen : Array Nat) (es : Array MapEntry) (clock : Nat) (hl : w.heap[li]? = some (.mapIter (some bm) since seen c0)) (hb : w.heap[bm]? = some (.map es clock)) (hold : ∀ x ∈ es.toList, x.born < since) (hsc : since ≤ c0) :
    ((leftOf es seen).size = 0 ∧ (Instr.next (.pointer (some ⟨li, 0, none⟩)) false ty).run P w = .ok (.tuple #[.bool false]) w) ∨
    ∃ e ∈ (leftOf es seen).toList, ∃ w1 : World, (w1 = w ∨ w1 = w.drew) ∧ (Instr.next (.pointer (some ⟨li, 0, none⟩)) false ty).run P w = .ok (.tuple #[.bool true, e.key, e.val]) (w1.putObj li (.mapIter (some bm) since (seen.push e.born) clock)) := by
  simp only [Instr.next, getObj, Sem.run_bind, Sem.run, hl, hb, Result.andThen, next_test_false seen es since c0 hold hsc, Bool.false_eq_true, if_false]
  unfold leftOf
  have hmem : ∀ x ∈ (Array.filter (fun e => !seen.contains e.born) es).toList, x.born < since := fun x hx => hold x (by simp at hx ⊢; exact hx.1)
  generalize Array.filter (fun e => !seen.contains e.born) es = L at hmem ⊢
  have e1 : L.filter (fun x => decide (x.born < since)) = L := Array.filter_eq_self.2 (fun x hx => by simpa using hmem x (by simpa using hx))
  have e2 : L.filter (fun x => decide (x.born ≥ since)) = #[] := by
    rw [Array.filter_eq_empty_iff]
    intro x hx
    have := hmem x (by simpa using hx)
    simp
    omega
  simp only [e1, e2, Array.append_empty]
  by_cases h0 : L.size = 0
  · left
    have : L = #[] := Array.eq_empty_of_size_eq_zero h0
    subst this
    refine ⟨rfl, ?_⟩
    simp [choose, Sem.run, Question.forced]
  · right
    have hne : L.isEmpty = false := by simp [Array.isEmpty, h0]
    simp only [hne, Bool.false_eq_true, if_false, Array.empty_append, Array.size_map]
    have hch : ∃ (j : Nat) (w1 : World), j < L.size ∧ (w1 = w ∨ w1 = w.drew) ∧ (choose (Question.mapNext L.size)).run P w = .ok j w1 := by
      by_cases hf : L.size ≤ 1
      · exact ⟨0, w, by omega, .inl rfl, by simp [choose, Sem.run, Question.forced, hf]⟩
      · exact ⟨_, w.drew, Nat.mod_lt _ (by omega), .inr rfl, by
          simp only [choose, Sem.run, Question.forced, decide_eq_true_eq, hf, if_false, Question.cut]
          rfl⟩
    obtain ⟨j, w1, hj, hal, hrun⟩ := hch
    refine ⟨L[j], by simp, w1, hal, ?_⟩
    have hl1 : w1.heap[li]? = some (.mapIter (some bm) since seen c0) := by rcases hal with rfl | rfl <;> exact hl
    have hset : ∀ o' : Obj, (setObj li o').run P w1 = .ok () (w1.putObj li o') := fun o' => by
      simp only [setObj, Sem.run, hl1]
      rfl
    simp only [hrun, Array.getElem?_map, Array.getElem?_eq_getElem hj, Option.map_some, Sem.run_bind, hset, Result.andThen]
    rfl
theorem run_entry_gen {P : Program} (w : World) (li bm since : Nat) (seen : Array Nat) (es : Array MapEntry) (clock : Nat) (e : MapEntry) (hl : w.heap[li]? = some (.mapIter (some bm) since (seen.push e.born) clock)) (hb : w.heap[bm]? = some (.map es clock)) (he : e ∈ es.toList) (hn : (es.toList.map (·.born)).Nodup) :
    (Instr.entry (.pointer (some ⟨li, 0, none⟩))).run P w = .ok (.tuple #[e.key, e.val]) w := by
  have hf : es.find? (·.born == e.born) = some e := by rw [← Array.find?_toList]; exact find_born e es.toList hn he
  simp only [Instr.entry, getObj, Sem.run_bind, Sem.run, hl, hb, Result.andThen, Array.back?_push, bne_self_eq_false, Bool.false_eq_true, if_false, hf]
  rfl
section
variable {C : Cfg} {M M' : Mp} {w w' : World} {B0 : Nat} {p : List Nat}
theorem SR.handle {s : St} {a : Act} (h : SR C B0 p M s a w) (o : Obj) : ∃ M', M'.m (s.c :: p) = some (w.heap.size, 0) ∧ M'.F w.heap.size ∧ (∀ b, M'.F b → M.F b ∨ b = w.heap.size) ∧ SR C B0 p M' ⟨s.t, s.nt, s.σ, s.c + 1⟩ a (w.alloc o) ∧ Nx B0 p M M' s ⟨s.t, s.nt, s.σ, s.c + 1⟩ w (w.alloc o) := by
  obtain ⟨M', hM'⟩ : ∃ M' : Mp, M' = ⟨fun st => if st = s.c :: p then some (w.heap.size, 0) else M.m st, fun b => M.F b ∨ b = w.heap.size⟩ := ⟨_, rfl⟩
  have hm : ∀ st, st ≠ s.c :: p → M'.m st = M.m st := fun st hne => by rw [hM']; exact if_neg hne
  have hnone : M.m (s.c :: p) = none := h.new.m s.c _ (Nat.le_refl _) ⟨[], rfl⟩
  have hF : ∀ b, M'.F b ↔ M.F b ∨ b = w.heap.size := fun b => by rw [hM']
  have hold : ∀ b, b < w.heap.size → (w.alloc o).heap[b]? = w.heap[b]? := fun b hb => heap_alloc_old w o hb
  have ex : Ext B0 M M' w (w.alloc o) := ⟨fun st x hx => by rw [hm st (by rintro rfl; rw [hnone] at hx; cases hx)]; exact hx, fun b hb => (hF b).2 (.inl hb), fun b hb => hold b (h.mem.sep.flt b hb), below_alloc _ _ _ h.mem.sep.base⟩
  have hst : ∀ (r : Nat) (ob : O) st, s.σ[r]? = some ob → ob.st = some st → st ≠ s.c :: p := fun r ob st h1 h2 e => h.new.s r ob st s.c h1 h2 (Nat.le_refl _) (e ▸ ⟨[], rfl⟩)
  refine ⟨M', by rw [hM']; exact if_pos rfl, (hF _).2 (.inr rfl), fun b hb => (hF b).1 hb, ⟨⟨⟨?_, ?_, ?_, ?_, ?_⟩, fun r ob hr => ?_⟩, ?_, ⟨?_, ?_⟩, h.gl.mono ex⟩, ⟨ex, ?_, fun r ob st h1 h2 => .inl ⟨ob, h1, h2⟩, Nat.le_refl _, Nat.le_succ _⟩⟩
  · intro r r' ob ob' st st' b n n' h1 h2 h3 h4 h5 h6
    rw [hm st (hst r ob st h1 h4)] at h6
    rw [hm st' (hst r' ob' st' h2 h5)]
    exact h.mem.sep.apart r r' ob ob' st st' b n n' h1 h2 h3 h4 h5 h6
  · intro r ob st b n h1 h2 h3 h4
    rw [hm st (hst r ob st h1 h2)] at h3
    rcases (hF b).1 h4 with h4 | rfl
    · exact h.mem.sep.live r ob st b n h1 h2 h3 h4
    · have := (h.mem.sep.lt st _ n h3).1; omega
  · intro st b n h1
    by_cases e : st = s.c :: p
    · rw [hM'] at h1
      simp only [if_pos e, Option.some.injEq, Prod.mk.injEq] at h1
      obtain ⟨rfl, rfl⟩ := h1
      exact ⟨by simp, h.mem.sep.base⟩
    · rw [hm st e] at h1
      have := h.mem.sep.lt st b n h1
      exact ⟨by simp; omega, this.2⟩
  · intro b hb
    rcases (hF b).1 hb with hb | rfl
    · have := h.mem.sep.flt b hb; simp; omega
    · simp
  · have := h.mem.sep.base; simp; omega
  · exact (h.mem.obj r ob hr).mono ex (fun st e => hm st (hst r ob st hr e)) fun st b n e h1 => hold b (h.mem.sep.lt st b n h1).1
  · exact ⟨h.fr.size, fun d => (h.fr.tmp d).mono ex⟩
  · intro k st hk hmn
    have hne : st ≠ s.c :: p := by
      rintro rfl
      obtain ⟨q, hq⟩ := hmn
      cases q with
      | nil =>
        have hk' : s.c + 1 ≤ k := hk
        simp at hq; omega
      | cons x q => have := congrArg List.length hq; simp at this; omega
    rw [hm st hne]
    exact h.new.m k st (by simp only at hk; omega) hmn
  · intro r ob st k h1 h2 hk hmn
    exact h.new.s r ob st k h1 h2 (by simp only at hk; omega) hmn
  · intro st x hx
    by_cases e : st = s.c :: p
    · subst e; exact .inr ⟨s.c, Nat.le_refl _, [], rfl⟩
    · rw [hm st e] at hx; exact .inl hx
theorem SR.drew {s : St} {a : Act} (h : SR C B0 p M s a w) : SR C B0 p M s a w.drew := by
  have hE : Ext B0 M M w w.drew := ⟨fun _ _ h => h, fun _ h => h, fun _ _ => rfl, below_drew _ _⟩
  exact ⟨⟨⟨h.mem.sep.apart, h.mem.sep.live, h.mem.sep.lt, h.mem.sep.flt, h.mem.sep.base⟩, fun r o ho => ObjRel.heap (w := w) (w' := w.drew) rfl (h.mem.obj r o ho)⟩, h.fr.mono hE, h.new, h.gl.mono hE⟩
theorem Nx.drew {s s' : St} {w0 : World} (h : Nx B0 p M M' s s' w0 w) : Nx B0 p M M' s s' w0 w.drew :=
  ⟨h.ext.trans ⟨fun _ _ h => h, fun _ h => h, fun _ _ => rfl, below_drew _ _⟩, h.names, h.onames, h.len, h.cc⟩
structure MapAt (C : Cfg) (M : Mp) (w : World) (st : List Nat) (bm : Nat) (kvs : List (V × V)) (es : Array MapEntry) : Prop where
  m : M.m st = some (bm, 0)
  F : M.F bm
  heap : w.heap[bm]? = some (.map es es.size)
  kv : RelKV M w kvs es.toList
  born : es.toList.map MapEntry.born = List.range es.size
theorem MapAt.mono {st : List Nat} {bm : Nat} {kvs : List (V × V)} {es : Array MapEntry} (h : MapAt C M w st bm kvs es) (e : Ext B0 M M' w w') : MapAt C M' w' st bm kvs es :=
  ⟨e.m st _ h.m, e.F _ h.F, (e.keep _ h.F).trans h.heap, ⟨h.kv.1, fun j k v hj => by
    obtain ⟨x, h1, h2, h3⟩ := h.kv.2 j k v hj
    exact ⟨x, h1, h2.mono e, h3.mono e⟩⟩, h.born⟩
theorem MapAt.nodup {st : List Nat} {bm : Nat} {kvs : List (V × V)} {es : Array MapEntry} (h : MapAt C M w st bm kvs es) : (es.toList.map (·.born)).Nodup := by
  have := h.born
  rw [show (es.toList.map (·.born)) = List.range es.size from this]
  exact List.nodup_range
theorem MapAt.lt {st : List Nat} {bm : Nat} {kvs : List (V × V)} {es : Array MapEntry} (h : MapAt C M w st bm kvs es) : ∀ x ∈ es.toList, x.born < es.size := by
  intro x hx
  have : x.born ∈ es.toList.map MapEntry.born := List.mem_map.2 ⟨x, hx, rfl⟩
  rw [h.born] at this
  exact List.mem_range.1 this
theorem make_in {ops : Array Oper} {r : Option Nat} {n0 : Nat} {Q : Exit → Act → World → Prop} {t ty : TypeId} {d : Nat} {pos : String} {af : Array Edge} {rest : List Oper} {s : St} {a : Act} (h : SR C B0 p M s a w)
    (hK : ∀ M' a' w' bm, w.heap.size ≤ bm → MapAt C M' w' (s.c :: p) bm [] #[] → SR C B0 p M' ((⟨s.t, s.nt, s.σ, s.c + 1⟩ : St).put (some d) (.map s.σ.length (s.c :: p))) a' w' → Nx B0 p M M' s ((⟨s.t, s.nt, s.σ, s.c + 1⟩ : St).put (some d) (.map s.σ.length (s.c :: p))) w w' → a'.defers = a.defers → wpListIn (Fnc r) n0 C.P ops Q rest a' w') :
    wpListIn (Fnc r) n0 C.P ops Q ((⟨some d, .makeMap t none, ty, pos, af, none⟩ : Oper) :: rest) a w := by
  obtain ⟨M', h1, h2, h3, h4, h5⟩ := h.handle (.map #[] 0)
  show (if Region.wanted _ _ = true then _ else _)
  rw [if_pos (show Region.wanted (⟨some d, .makeMap t none, ty, pos, af, none⟩ : Oper) _ = true from rfl)]
  refine oper_in (fun cl h => by cases h) ?_
  unfold Oper.wp
  have hrun : (execOp a.eval (⟨some d, .makeMap t none, ty, pos, af, none⟩ : Oper)).run C.P w = .ok (.value (.map (some w.heap.size))) (w.alloc (.map #[] 0)) := by
    simp [execOp, Instr.makeMap]
  rw [hrun]
  obtain ⟨f1, f2, f3⟩ := put_keeps (⟨s.t, s.nt, s.σ, s.c + 1⟩ : St) (some d) (.map s.σ.length (s.c :: p))
  refine hK M' _ _ w.heap.size (Nat.le_refl _) ⟨h1, h2, heap_alloc_new _ _, ⟨rfl, fun j k v hj => by simp at hj⟩, rfl⟩ ⟨by rw [f1]; exact h4.mem, h4.fr.put (some d) (.map _ _ _ _ h1), by rw [f1, f2]; exact h4.new, h4.gl⟩ (h5.to f1.symm f2.symm) (put_defers _ _ _)
theorem ins_in {ops : Array Oper} {r : Option Nat} {n0 : Nat} {Q : Exit → Act → World → Prop} {t kt et ty : TypeId} {pos : String} {af : Array Edge} {rest : List Oper} {s s0 : St} {a : Act} {M0 : Mp} {w0 : World} (h : SR C B0 p M s a w) (hn : Nx B0 p M0 M s0 s w0 w)
    {m k x : Operand} {rm : Nat} {st : List Nat} {bm : Nat} {kvs : List (V × V)} {es : Array MapEntry} (hM : MapAt C M w st bm kvs es) (hF0 : ¬ M0.F bm) (hB : B0 ≤ bm) (hm : s.ev C m = .map rm st) (hsh : C.shape t = .map kt et) (hk : keyOk C kt (s.ev C k) = true) (hf : findA (s.ev C k) kvs 0 = some none)
    (hK : ∀ a' w' es', MapAt C M w' st bm (kvs ++ [(s.ev C k, s.ev C x)]) es' → SR C B0 p M s a' w' → Nx B0 p M0 M s0 s w0 w' → a'.defers = a.defers → wpListIn (Fnc r) n0 C.P ops Q rest a' w') :
    wpListIn (Fnc r) n0 C.P ops Q ((⟨none, .insert t m k x, ty, pos, af, none⟩ : Oper) :: rest) a w := by
  show (if Region.wanted _ _ = true then _ else _)
  rw [if_pos (show Region.wanted (⟨none, .insert t m k x, ty, pos, af, none⟩ : Oper) _ = true from rfl)]
  refine oper_in (fun cl h => by cases h) ?_
  unfold Oper.wp
  have em : a.eval m = .map (some bm) := by
    have := ev_rel h.gl h.fr m
    rw [hm] at this
    obtain ⟨b, n, q1, q2⟩ := this.map_inv
    rw [hM.m] at q1; cases q1
    exact q2
  have rk := ev_rel h.gl h.fr k
  have rx := ev_rel h.gl h.fr x
  obtain ⟨hck, d, hd, hkd⟩ := keyOk_run (C := C) hk rk
  obtain ⟨r', g1, g2⟩ := find_sound hkd rk _ _ 0 _ hM.kv hf
  have hr' : r' = none := by
    rcases g2 with ⟨_, h2⟩ | ⟨i, v, u, k', e, h2, _⟩
    · exact h2
    · cases h2
  subst hr'
  have hfk : (Instr.findKey kt (a.eval k) es.toList).run C.P w = .ok none w := by
    simp [Instr.findKey, hd, g1]
  have hset : ∀ o : Obj, (setObj bm o).run C.P w = .ok () (w.putObj bm o) := by
    intro o; simp [setObj, Sem.run, hM.heap]; rfl
  have hrun : (execOp a.eval (⟨none, .insert t m k x, ty, pos, af, none⟩ : Oper)).run C.P w = .ok .skip (w.putObj bm (.map (es.push { key := a.eval k, val := a.eval x, born := es.size }) (es.size + 1))) := by
    simp [execOp, em, Instr.mapUpdate, run_under (shape_map hsh), run_getMap hM.heap, hck, hfk, hset]
  rw [hrun]
  have hq := h.putObj (o' := .map (es.push { key := a.eval k, val := a.eval x, born := es.size }) (es.size + 1)) hM.heap rfl hM.F
  have hlt : bm < w.heap.size := h.mem.sep.flt bm hM.F
  have cp := cell_putObj (o' := .map (es.push { key := a.eval k, val := a.eval x, born := es.size }) (es.size + 1)) hM.heap rfl
  refine hK a _ (es.push { key := a.eval k, val := a.eval x, born := es.size }) ⟨hM.m, hM.F, by rw [Array.size_push]; exact World.putObj_heap_same hlt, ⟨by simp; have := hM.kv.1; simpa using this, fun j k2 v2 hj => ?_⟩, ?_⟩ hq (hn.putObj (by rw [hM.heap]; rfl) hB hF0) rfl
  · rcases snoc_get hj with ⟨hl, hj⟩ | ⟨hjl, hq⟩
    · obtain ⟨e, a1, a2, a3⟩ := hM.kv.2 j k2 v2 hj
      exact ⟨e, by rw [Array.toList_push, List.getElem?_append_left (by rw [hM.kv.1]; exact hl)]; exact a1, a2.quiet cp, a3.quiet cp⟩
    · cases hq
      exact ⟨{ key := a.eval k, val := a.eval x, born := es.size }, by rw [hjl, Array.toList_push, ← hM.kv.1]; simp, rk.quiet cp, rx.quiet cp⟩
  · rw [Array.toList_push, List.map_append, hM.born, Array.size_push, List.range_succ]; rfl
theorem range_in {ops : Array Oper} {r : Option Nat} {n0 : Nat} {Q : Exit → Act → World → Prop} {t kt et ty : TypeId} {d : Nat} {pos : String} {af : Array Edge} {rest : List Oper} {s : St} {a : Act} (h : SR C B0 p M s a w)
    {x : Operand} {rm : Nat} {st : List Nat} {bm : Nat} {kvs : List (V × V)} {es : Array MapEntry} (hM : MapAt C M w st bm kvs es) (hx : s.ev C x = .map rm st) (hsh : C.shape t = .map kt et)
    (hK : ∀ M' a' w' li, M'.m (s.c :: p) = some (li, 0) → M'.F li → (∀ b, M'.F b → M.F b ∨ b = li) → w.heap.size ≤ li → w'.heap[li]? = some (.mapIter (some bm) es.size #[] es.size) → MapAt C M' w' st bm kvs es → SR C B0 p M' ((⟨s.t, s.nt, s.σ, s.c + 1⟩ : St).put (some d) (.ptr s.σ.length (s.c :: p) 0)) a' w' → Nx B0 p M M' s ((⟨s.t, s.nt, s.σ, s.c + 1⟩ : St).put (some d) (.ptr s.σ.length (s.c :: p) 0)) w w' → a'.defers = a.defers → wpListIn (Fnc r) n0 C.P ops Q rest a' w') :
    wpListIn (Fnc r) n0 C.P ops Q ((⟨some d, .range t x, ty, pos, af, none⟩ : Oper) :: rest) a w := by
  obtain ⟨M', h1, h2, h3, h4, h5⟩ := h.handle (.mapIter (some bm) es.size #[] es.size)
  show (if Region.wanted _ _ = true then _ else _)
  rw [if_pos (show Region.wanted (⟨some d, .range t x, ty, pos, af, none⟩ : Oper) _ = true from rfl)]
  refine oper_in (fun cl h => by cases h) ?_
  unfold Oper.wp
  have em : a.eval x = .map (some bm) := by
    have := ev_rel h.gl h.fr x
    rw [hx] at this
    obtain ⟨b, n, q1, q2⟩ := this.map_inv
    rw [hM.m] at q1; cases q1
    exact q2
  have hrun : (execOp a.eval (⟨some d, .range t x, ty, pos, af, none⟩ : Oper)).run C.P w = .ok (.value (.pointer (some ⟨w.heap.size, 0, none⟩))) (w.alloc (.mapIter (some bm) es.size #[] es.size)) := by
    simp only [execOp, em, Sem.run_bind, run_range_map w t kt et bm es es.size (shape_map hsh) hM.heap, Result.andThen_ok, Sem.run_pure]
  rw [hrun]
  obtain ⟨f1, f2, f3⟩ := put_keeps (⟨s.t, s.nt, s.σ, s.c + 1⟩ : St) (some d) (.ptr s.σ.length (s.c :: p) 0)
  exact hK M' _ _ w.heap.size h1 h2 h3 (Nat.le_refl _) (heap_alloc_new _ _) (hM.mono h5.ext) ⟨by rw [f1]; exact h4.mem, h4.fr.put (some d) (.ptr _ _ _ _ _ h1), by rw [f1, f2]; exact h4.new, h4.gl⟩ (h5.to f1.symm f2.symm) (put_defers _ _ _)
def rounds (step : Nat → V → V → St → Option St) (fin : St → Bool) : Nat → List (Nat × V × V) → St → Bool
  | 0, l, s => l.isEmpty && fin s
  | f + 1, l, s => match l with
    | [] => fin s
    | _ :: _ => l.all fun x => match step x.1 x.2.1 x.2.2 s with | some s1 => rounds step fin f (l.filter fun y => y.1 != x.1) s1 | none => false
structure RangeC where
  it : Nat
  d1 : Nat
  tc : Nat
  d2 : Nat
  b0 : Nat
  b1 : Nat
  r1 : Nat
  r2 : Nat
  o1 : Oper
  o2 : Oper
  rest1 : List Oper
  rest2 : List Oper
  body : Code
def RangeC.code (q : RangeC) : Code :=
  (Code.region q.r1 (q.o1 :: q.rest1).toArray false).seq ((Code.cond (.tmp q.tc) .skip (.exit q.b0)).seq (Code.block q.b1 ((Code.region q.r2 (q.o2 :: q.rest2).toArray false).seq q.body)))
def noC : CallF := fun _ _ _ _ => none
def RangeC.step (q : RangeC) (C : Cfg) (call : CallF) (g n : Nat) (p : List Nat) (ptr : V) (k v : V) (s : St) : Option St :=
  if V.eqb (s.ev C (.tmp q.it)) ptr then
    (opsA C call p (q.o1 :: q.rest1).toArray q.rest1 (s.put (some q.d1) (.tup [.b true, k, v]))).bind fun s1 =>
      match s1.ev C (.tmp q.tc) with
      | .b true => if V.eqb (s1.ev C (.tmp q.it)) ptr then (opsA C call p (q.o2 :: q.rest2).toArray q.rest2 (s1.put (some q.d2) (.tup [k, v]))).bind fun s2 => match codeA C call g p n q.body s2 with | some (.normal, s3) => some s3 | _ => none else none
      | _ => none
  else none
def RangeC.last (q : RangeC) (C : Cfg) (call : CallF) (p : List Nat) (ptr : V) (s : St) : Option St :=
  if V.eqb (s.ev C (.tmp q.it)) ptr then
    (opsA C call p (q.o1 :: q.rest1).toArray q.rest1 (s.put (some q.d1) (.tup [.b false]))).bind fun s1 => match s1.ev C (.tmp q.tc) with | .b false => some s1 | _ => none
  else none
theorem SR.put1 {s : St} {a : Act} (h : SR C B0 p M s a w) (d : Option Nat) {v : V} {y : Value} (hv : Rel M w v y) : SR C B0 p M (s.put d v) (a.put d y) w := by
  obtain ⟨f1, f2, f3⟩ := put_keeps s d v
  exact ⟨by rw [f1]; exact h.mem, h.fr.put d hv, by rw [f1, f2]; exact h.new, h.gl⟩
theorem range_loop {call : CallF} (hcall : CallOk C call) (hdraw : DrawOk C) (g n : Nat) (r : Option Nat) (n0 : Nat) (q : RangeC) (hnr : noR C g q.body = true) (hrg : regsOk C g q.body = true)
    {ty1 ty2 : TypeId} {pos1 pos2 : String} {af1 af2 : Array Edge} (ho1 : q.o1 = ⟨some q.d1, .next (.tmp q.it) false, ty1, pos1, af1, none⟩) (ho2 : q.o2 = ⟨some q.d2, .entry (.tmp q.it), ty2, pos2, af2, none⟩)
    {ri : Nat} {sti st : List Nat} {bm li : Nat} {kvs : List (V × V)} {es : Array MapEntry} {M0 : Mp} {w0 : World} {s0 : St} {ds : List Deferred} (hB : B0 ≤ li) (hF0 : ¬ M0.F li) (hne : bm ≠ li)
    {Q : Exit → Act → World → Prop} (fin : St → Bool)
    (hQ : ∀ (M' : Mp) (s1 : St) (a' : Act) (w' : World), fin s1 = true → SR C B0 p M' s1 a' w' → Nx B0 p M0 M' s0 s1 w0 w' → a'.defers = ds → Q .normal a' w') :
    ∀ (f : Nat) (L : List (Nat × V × V)) (s : St) (a : Act) (M : Mp) (w : World) (seen : Array Nat),
      rounds (fun _ k v s => q.step C call g n p (.ptr ri sti 0) k v s) (fun s => match q.last C call p (.ptr ri sti 0) s with | some s1 => fin s1 | none => false) f L s = true →
      SR C B0 p M s a w → Nx B0 p M0 M s0 s w0 w → MapAt C M w st bm kvs es → M.m sti = some (li, 0) → M.F li → (∃ cc, es.size ≤ cc ∧ w.heap[li]? = some (.mapIter (some bm) es.size seen cc)) →
      (leftOf es seen).toList.map MapEntry.born = L.map (·.1) → (∀ x ∈ L, kvs[x.1]? = some x.2) → a.defers = ds →
      Code.roundsIn (Fnc r) n0 C.P q.code (Exit.inBlock q.b0 Q) (f + 1) a w := by
  obtain ⟨ptr, hptr⟩ : ∃ ptr, ptr = V.ptr ri sti 0 := ⟨_, rfl⟩
  rw [← hptr]
  have head : ∀ (m : Nat) (L : List (Nat × V × V)) (s : St) (a : Act) (M : Mp) (w : World) (seen : Array Nat),
      SR C B0 p M s a w → Nx B0 p M0 M s0 s w0 w → MapAt C M w st bm kvs es → M.m sti = some (li, 0) → M.F li → (∃ cc, es.size ≤ cc ∧ w.heap[li]? = some (.mapIter (some bm) es.size seen cc)) →
      (leftOf es seen).toList.map MapEntry.born = L.map (·.1) → (∀ x ∈ L, kvs[x.1]? = some x.2) → a.defers = ds →
      (L = [] → (match q.last C call p ptr s with | some s1 => fin s1 | none => false) = true) →
      (∀ x ∈ L, ∃ s1, q.step C call g n p ptr x.2.1 x.2.2 s = some s1 ∧ ∀ (a' : Act) (M' : Mp) (w' : World) (seen' : Array Nat), SR C B0 p M' s1 a' w' → Nx B0 p M0 M' s0 s1 w0 w' → MapAt C M' w' st bm kvs es → M'.m sti = some (li, 0) → M'.F li →
        (∃ cc, es.size ≤ cc ∧ w'.heap[li]? = some (.mapIter (some bm) es.size seen' cc)) → (leftOf es seen').toList.map MapEntry.born = (L.filter fun y => y.1 != x.1).map (·.1) → (∀ y ∈ L.filter fun y => y.1 != x.1, kvs[y.1]? = some y.2) → a'.defers = ds →
        Code.roundsIn (Fnc r) n0 C.P q.code (Exit.inBlock q.b0 Q) m a' w') →
      Code.roundsIn (Fnc r) n0 C.P q.code (Exit.inBlock q.b0 Q) (m + 1) a w := by
    intro m L s a M w seen h hn hM hm hF hit hleft hkv hds hl hs
    obtain ⟨cc, hcc, hit⟩ := hit
    have hev : s.ev C (.tmp q.it) = ptr := by
      cases L with
      | nil =>
        have h1 := hl rfl
        unfold RangeC.last at h1
        split at h1
        · rename_i s1 h2
          split at h2
          · rename_i h3; exact V.eqb_eq h3
          · cases h2
        · cases h1
      | cons x L =>
        obtain ⟨s1, h1, _⟩ := hs x (by simp)
        unfold RangeC.step at h1
        split at h1
        · rename_i h3; exact V.eqb_eq h3
        · cases h1
    have eit : a.eval (.tmp q.it) = .pointer (some ⟨li, 0, none⟩) := by
      have := ev_rel h.gl h.fr (.tmp q.it)
      rw [hev, hptr] at this
      obtain ⟨b, k, q1, q2⟩ := this.ptr_inv
      rw [hm] at q1; cases q1
      exact q2
    rw [roundsIn_succ]
    show ((Code.region q.r1 (q.o1 :: q.rest1).toArray false).seq ((Code.cond (.tmp q.tc) .skip (.exit q.b0)).seq (Code.block q.b1 ((Code.region q.r2 (q.o2 :: q.rest2).toArray false).seq q.body)))).wpIn (Fnc r) n0 C.P _ a w
    refine wpIn_seq (wpIn_region_list ?_)
    show wpListIn _ _ _ (q.o1 :: q.rest1).toArray _ (q.o1 :: q.rest1) a w
    obtain ⟨ops1, hops1⟩ : ∃ ops1, ops1 = (q.o1 :: q.rest1).toArray := ⟨_, rfl⟩
    rw [← hops1, ho1]
    show (if Region.wanted _ _ = true then _ else _)
    rw [if_pos (show Region.wanted (⟨some q.d1, .next (.tmp q.it) false, ty1, pos1, af1, none⟩ : Oper) _ = true from rfl)]
    refine oper_in (fun cl h => by cases h) ?_
    unfold Oper.wp
    rcases run_next_gen (P := C.P) w ty1 li bm es.size cc seen es es.size hit hM.heap hM.lt hcc with ⟨h0, hrun⟩ | ⟨e, he, w1, hw1, hrun⟩
    · -- none is left
      have hL : L = [] := by
        have : (leftOf es seen).toList = [] := List.eq_nil_of_length_eq_zero (by simpa using h0)
        rw [this] at hleft
        exact List.map_eq_nil_iff.1 hleft.symm
      have hx : (execOp a.eval (⟨some q.d1, .next (.tmp q.it) false, ty1, pos1, af1, none⟩ : Oper)).run C.P w = .ok (.value (.tuple #[.bool false])) w := by
        simp only [execOp, eit, Sem.run_bind, hrun, Result.andThen_ok, Sem.run_pure]
      rw [hx]
      have h1 := hl hL
      unfold RangeC.last at h1
      split at h1
      case h_2 => cases h1
      rename_i s1 h2
      split at h2
      case isFalse => cases h2
      simp only [Option.bind_eq_some_iff] at h2
      obtain ⟨s2, h3, h4⟩ := h2
      split at h4
      case h_2 => cases h4
      rename_i hb
      cases h4
      rw [← hops1] at h3
      have hsr := h.put1 (some q.d1) (v := .tup [.b false]) (y := .tuple #[.bool false]) (.tup _ _ (.cons _ _ _ _ (.b _) .nil))
      refine opsA_in hcall ops1 r n0 q.rest1 _ _ _ M w hsr h3 fun M' a' w' h' hn' hd' => ?_
      show (Code.seq _ _).wpIn _ _ _ _ _ _
      have hc : a'.eval (.tmp q.tc) = .bool false := by
        have := ev_rel h'.gl h'.fr (.tmp q.tc)
        rw [hb] at this
        exact this.b_inv
      refine wpIn_seq (wpIn_cond hc ?_)
      refine wpIn_exit ?_
      simp only [Exit.then, Exit.inBlock, if_true]
      obtain ⟨f1, f2, f3⟩ := put_keeps s (some q.d1) (.tup [.b false])
      exact hQ M' s1 a' w' h1 h' (hn.trans (hn'.of f1 f2)) (hd'.trans ((put_defers _ _ _).trans hds))
    · -- one comes out
      have hx : (execOp a.eval (⟨some q.d1, .next (.tmp q.it) false, ty1, pos1, af1, none⟩ : Oper)).run C.P w = .ok (.value (.tuple #[.bool true, e.key, e.val])) (w1.putObj li (.mapIter (some bm) es.size (seen.push e.born) es.size)) := by
        simp only [execOp, eit, Sem.run_bind, hrun, Result.andThen_ok, Sem.run_pure]
      rw [hx]
      obtain ⟨hes, hseen⟩ := mem_left he
      have hbj : es.toList[e.born]? = some e := by
        obtain ⟨j, hj⟩ := List.mem_iff_getElem?.1 hes
        have h1 : (es.toList.map MapEntry.born)[j]? = some e.born := by rw [List.getElem?_map, hj]; rfl
        rw [hM.born, List.getElem?_range (by have := (List.getElem?_eq_some_iff.1 hj).1; simpa using this)] at h1
        cases h1
        exact hj
      obtain ⟨x, hxL, hxb⟩ : ∃ x ∈ L, x.1 = e.born := by
        have : e.born ∈ (leftOf es seen).toList.map MapEntry.born := List.mem_map.2 ⟨e, he, rfl⟩
        rw [hleft] at this
        obtain ⟨x, h1, h2⟩ := List.mem_map.1 this
        exact ⟨x, h1, h2⟩
      have hrel : ∀ (M' : Mp) (w' : World), MapAt C M' w' st bm kvs es → Rel M' w' x.2.1 e.key ∧ Rel M' w' x.2.2 e.val := by
        intro M' w' hM'
        obtain ⟨e', g1, g2, g3⟩ := hM'.kv.2 x.1 x.2.1 x.2.2 (hkv x hxL)
        rw [hxb, hbj] at g1
        cases g1
        exact ⟨g2, g3⟩
      obtain ⟨s3, hstep, hcont⟩ := hs x hxL
      have h1 : SR C B0 p M s a w1 ∧ Nx B0 p M0 M s0 s w0 w1 ∧ MapAt C M w1 st bm kvs es ∧ w1.heap[li]? = some (.mapIter (some bm) es.size seen cc) := by
        rcases hw1 with rfl | rfl
        · exact ⟨h, hn, hM, hit⟩
        · exact ⟨h.drew, hn.drew, hM.mono (B0 := B0) ⟨fun _ _ h => h, fun _ h => h, fun _ _ => rfl, below_drew _ _⟩, hit⟩
      obtain ⟨h1, hn1, hM1, hit1⟩ := h1
      obtain ⟨w2, hw2⟩ : ∃ w2, w2 = w1.putObj li (.mapIter (some bm) es.size (seen.push e.born) es.size) := ⟨_, rfl⟩
      have h2 : SR C B0 p M s a w2 := by rw [hw2]; exact h1.putObj hit1 rfl hF
      have hn2 : Nx B0 p M0 M s0 s w0 w2 := by rw [hw2]; exact hn1.putObj (by rw [hit1]; rfl) hB hF0
      have hit2 : w2.heap[li]? = some (.mapIter (some bm) es.size (seen.push e.born) es.size) := by
        rw [hw2]; exact World.putObj_heap_same (h1.mem.sep.flt li hF)
      have hM2 : MapAt C M w2 st bm kvs es := by
        have cp := cell_putObj (o' := .mapIter (some bm) es.size (seen.push e.born) es.size) hit1 rfl
        refine ⟨hM1.m, hM1.F, by rw [hw2, World.putObj_heap_other hne]; exact hM1.heap, ⟨hM1.kv.1, fun j k v hj => ?_⟩, hM1.born⟩
        obtain ⟨y, g1, g2, g3⟩ := hM1.kv.2 j k v hj
        exact ⟨y, g1, by rw [hw2]; exact g2.quiet cp, by rw [hw2]; exact g3.quiet cp⟩
      rw [← hw2]
      have hr2 := hrel M w2 hM2
      have hsr := h2.put1 (some q.d1) (v := .tup [.b true, x.2.1, x.2.2]) (y := .tuple #[.bool true, e.key, e.val]) (.tup _ _ (.cons _ _ _ _ (.b _) (.cons _ _ _ _ hr2.1 (.cons _ _ _ _ hr2.2 .nil))))
      unfold RangeC.step at hstep
      split at hstep
      case isFalse => cases hstep
      simp only [Option.bind_eq_some_iff] at hstep
      obtain ⟨t1, ht1, hstep⟩ := hstep
      split at hstep
      case h_2 => cases hstep
      rename_i hb
      split at hstep
      case isFalse => cases hstep
      rename_i hit3
      simp only [Option.bind_eq_some_iff] at hstep
      obtain ⟨t2, ht2, hstep⟩ := hstep
      split at hstep
      case h_2 => cases hstep
      rename_i s4 hbody
      cases hstep
      rw [← hops1] at ht1
      refine opsA_in hcall ops1 r n0 q.rest1 _ _ _ M w2 hsr ht1 fun M3 a3 w3 h3 hn3 hd3 => ?_
      show (Code.seq _ _).wpIn _ _ _ _ _ _
      have hc : a3.eval (.tmp q.tc) = .bool true := by
        have := ev_rel h3.gl h3.fr (.tmp q.tc)
        rw [hb] at this
        exact this.b_inv
      refine wpIn_seq (wpIn_cond hc ?_)
      refine wpIn_skip ?_
      show (Code.block _ _).wpIn _ _ _ _ _ _
      refine wpIn_block (wpIn_seq (wpIn_region_list ?_))
      show wpListIn _ _ _ (q.o2 :: q.rest2).toArray _ (q.o2 :: q.rest2) a3 w3
      obtain ⟨ops2, hops2⟩ : ∃ ops2, ops2 = (q.o2 :: q.rest2).toArray := ⟨_, rfl⟩
      rw [← hops2, ho2]
      show (if Region.wanted _ _ = true then _ else _)
      rw [if_pos (show Region.wanted (⟨some q.d2, .entry (.tmp q.it), ty2, pos2, af2, none⟩ : Oper) _ = true from rfl)]
      refine oper_in (fun cl h => by cases h) ?_
      unfold Oper.wp
      have hM3 := hM2.mono hn3.ext
      have hm3 := hn3.ext.m sti _ hm
      have hF3 := hn3.ext.F li hF
      have hit4 := (hn3.ext.keep li hF).trans hit2
      have eit3 : a3.eval (.tmp q.it) = .pointer (some ⟨li, 0, none⟩) := by
        have := ev_rel h3.gl h3.fr (.tmp q.it)
        rw [V.eqb_eq hit3, hptr] at this
        obtain ⟨b, k, q1, q2⟩ := this.ptr_inv
        rw [hm3] at q1; cases q1
        exact q2
      have hx3 : (execOp a3.eval (⟨some q.d2, .entry (.tmp q.it), ty2, pos2, af2, none⟩ : Oper)).run C.P w3 = .ok (.value (.tuple #[e.key, e.val])) w3 := by
        simp only [execOp, eit3, Sem.run_bind, run_entry_gen (P := C.P) w3 li bm es.size seen es es.size e hit4 hM3.heap hes hM3.nodup, Result.andThen_ok, Sem.run_pure]
      rw [hx3]
      have hr3 := hrel M3 w3 hM3
      have hsr3 := h3.put1 (some q.d2) (v := .tup [x.2.1, x.2.2]) (y := .tuple #[e.key, e.val]) (.tup _ _ (.cons _ _ _ _ hr3.1 (.cons _ _ _ _ hr3.2 .nil)))
      rw [← hops2] at ht2
      refine opsA_in hcall ops2 r n0 q.rest2 _ _ _ M3 w3 hsr3 ht2 fun M4 a4 w4 h4 hn4 hd4 => ?_
      show q.body.wpIn _ _ _ _ _ _
      refine wpIn_mono (codeR_sound hcall hdraw g n r n0 q.body t2 s3 .normal a4 M4 w4 hnr hrg h4 hbody) ?_
      rintro _ a5 w5 ⟨rfl, M5, h5, hn5, hd5⟩
      have ext := (hn4.ext).trans hn5.ext
      obtain ⟨f1, f2, f3⟩ := put_keeps s (some q.d1) (.tup [.b true, x.2.1, x.2.2])
      obtain ⟨f4, f5, f6⟩ := put_keeps t1 (some q.d2) (.tup [x.2.1, x.2.2])
      show Code.roundsIn (Fnc r) n0 C.P q.code (Exit.inBlock q.b0 Q) m a5 w5
      refine hcont a5 M5 w5 (seen.push e.born) h5 (((hn2.trans (hn3.of f1 f2)).trans (hn4.of f4 f5)).trans hn5) (hM3.mono ext) (ext.m sti _ hm3) (ext.F li hF3) ⟨es.size, Nat.le_refl _, (ext.keep li hF3).trans hit4⟩ ?_ (fun y hy => hkv y (List.mem_filter.1 hy).1) ?_
      · have hlf : (leftOf es (seen.push e.born)).toList = (leftOf es seen).toList.filter fun y => y.born != e.born := by
          unfold leftOf
          rw [Array.toList_filter, Array.toList_filter, List.filter_filter]
          congr 1
          funext y
          rw [contains_push]
          cases seen.contains y.born <;> simp [bne]
        rw [hlf, hxb]
        have e1 : ∀ l : List MapEntry, (l.filter fun y => y.born != e.born).map MapEntry.born = (l.map MapEntry.born).filter fun y => y != e.born := fun l => by rw [List.filter_map]; rfl
        have e2 : ∀ l : List (Nat × V × V), (l.filter fun y => y.1 != e.born).map (·.1) = (l.map (·.1)).filter fun y => y != e.born := fun l => by rw [List.filter_map]; rfl
        rw [e1, e2, hleft]
      · rw [hd5, hd4, put_defers, hd3, put_defers]; exact hds
  intro f
  induction f with
  | zero =>
    intro L s a M w seen hr h hn hM hm hF hit hleft hkv hds
    simp only [rounds, Bool.and_eq_true, List.isEmpty_iff] at hr
    refine head 0 L s a M w seen h hn hM hm hF hit hleft hkv hds (fun _ => hr.2) fun x hx => ?_
    rw [hr.1] at hx; cases hx
  | succ f ih =>
    intro L s a M w seen hr h hn hM hm hF hit hleft hkv hds
    refine head (f + 1) L s a M w seen h hn hM hm hF hit hleft hkv hds (fun hL => ?_) fun x hx => ?_
    · subst hL; exact hr
    · cases L with
      | nil => cases hx
      | cons y L =>
        simp only [rounds] at hr
        rw [List.all_eq_true] at hr
        have := hr x hx
        split at this
        · rename_i s1 hs1
          exact ⟨s1, hs1, fun a' M' w' seen' g1 g2 g3 g4 g5 g6 g7 g8 g9 => ih _ s1 a' M' w' seen' this g1 g2 g3 g4 g5 g6 g7 g8 g9⟩
        · cases this
theorem one_in {call : CallF} (hcall : CallOk C call) {ops : Array Oper} {r : Option Nat} {n0 : Nat} {Q : Exit → Act → World → Prop} {o : Oper} {rest : List Oper} {s s' : St} {a : Act} (h : SR C B0 p M s a w) (hst : stepA C call p ops o s = some s')
    (hK : ∀ M' a' w', SR C B0 p M' s' a' w' → Nx B0 p M M' s s' w w' → a'.defers = a.defers → wpListIn (Fnc r) n0 C.P ops Q rest a' w') : wpListIn (Fnc r) n0 C.P ops Q (o :: rest) a w :=
  stepA_in (Q := Q) hcall h ops o hst r n0 (K := wpListIn (Fnc r) n0 C.P ops Q rest) hK
def insOf : Oper → Option (TypeId × Operand × Operand × Operand)
  | ⟨none, .insert t m k x, _, _, _, none⟩ => some (t, m, k, x)
  | _ => none
def insOps (C : Cfg) (call : CallF) (p : List Nat) (ops : Array Oper) (stm : List Nat) : List Oper → St → List (V × V) → Option (St × List (V × V))
  | [], s, kvs => some (s, kvs)
  | o :: l, s, kvs => match insOf o with
    | some (t, m, k, x) => (match s.ev C m, C.shape t with
      | .map _ st, .map kt _ => if st = stm && keyOk C kt (s.ev C k) then (match findA (s.ev C k) kvs 0 with | some none => insOps C call p ops stm l s (kvs ++ [(s.ev C k, s.ev C x)]) | _ => none) else none
      | _, _ => none)
    | none => (stepA C call p ops o s).bind fun s' => insOps C call p ops stm l s' kvs
theorem insOps_in {call : CallF} (hcall : CallOk C call) {ops : Array Oper} {r : Option Nat} {n0 : Nat} {Q : Exit → Act → World → Prop} {rest : List Oper} {stm : List Nat} {bm : Nat} {M0 : Mp} {w0 : World} {s0 : St} (hF0 : ¬ M0.F bm) (hB : B0 ≤ bm) {s' : St} {kvs' : List (V × V)} {ds : List Deferred}
    (hK : ∀ M' a' w' es', MapAt C M' w' stm bm kvs' es' → SR C B0 p M' s' a' w' → Nx B0 p M0 M' s0 s' w0 w' → a'.defers = ds → wpListIn (Fnc r) n0 C.P ops Q rest a' w') :
    ∀ (l : List Oper) (s : St) (kvs : List (V × V)) (es : Array MapEntry) (a : Act) (M : Mp) (w : World), insOps C call p ops stm l s kvs = some (s', kvs') → SR C B0 p M s a w → Nx B0 p M0 M s0 s w0 w → MapAt C M w stm bm kvs es → a.defers = ds →
      wpListIn (Fnc r) n0 C.P ops Q (l ++ rest) a w := by
  intro l
  induction l with
  | nil =>
    intro s kvs es a M w hi h hn hM hds
    simp only [insOps, Option.some.injEq, Prod.mk.injEq] at hi
    obtain ⟨rfl, rfl⟩ := hi
    exact hK M a w es hM h hn hds
  | cons o l ih =>
    intro s kvs es a M w hi h hn hM hds
    simp only [insOps] at hi
    split at hi
    · rename_i t m k x ho
      split at hi
      · rename_i rm st kt et hm hsh
        split at hi
        · rename_i hb
          simp only [Bool.and_eq_true, decide_eq_true_eq] at hb
          obtain ⟨hst, hk⟩ := hb
          have hst : st = stm := by simpa using hst
          subst hst
          split at hi
          · rename_i hf
            obtain ⟨dst, op, ty, pos, af, gd⟩ := o
            unfold insOf at ho
            split at ho
            · rename_i heq
              cases heq
              cases ho
              exact ins_in h hn hM hF0 hB hm hsh hk hf fun a' w' es' g1 g2 g3 g4 => ih s _ es' a' M w' hi g2 g3 g1 (g4.trans hds)
            · cases ho
          · cases hi
        · cases hi
      · cases hi
    · simp only [Option.bind_eq_some_iff] at hi
      obtain ⟨s1, h1, hi⟩ := hi
      exact one_in hcall h h1 fun M' a' w' g1 g2 g3 => ih s1 kvs es a' M' w' hi g1 (hn.trans g2) (hM.mono g2.ext) (g3.trans hds)
structure RangeF where
  pre : List Code
  r4 : Nat
  om : Oper
  dm : Nat
  l : List Oper
  og : Oper
  dr : Nat
  tx : Operand
  q : RangeC
  Z : Code
def RangeF.ops (q : RangeF) : Array Oper := (q.om :: (q.l ++ [q.og])).toArray
def RangeF.Y (q : RangeF) : Code := (Code.region q.r4 q.ops false).seq (Code.block q.q.b0 q.q.code.loop)
def RangeF.code (q : RangeF) : Code := q.pre.foldr Code.seq (q.Y.seq q.Z)
def preRun (C : Cfg) (call : CallF) (g : Nat) (p : List Nat) (n : Nat) : List Code → St → Option St
  | [], s => some s
  | c :: l, s => match codeA C call g p n c s with | some (.normal, s') => preRun C call g p n l s' | _ => none
def RangeF.fin (q : RangeF) (C : Cfg) (call : CallF) (g : Nat) (p : List Nat) (n : Nat) (args : List V) (base : Nat) (rs : List ResultVar) (v : V) (s : St) : Bool :=
  match codeA C call g p n q.Z s with
  | some (e, s') => (match doneA C g p base args rs (e, s') with | some (v', σ') => V.eqb v' v && σ'.isEmpty | none => false)
  | none => false
def RangeF.chk (q : RangeF) (C : Cfg) (call : CallF) (g : Nat) (p : List Nat) (n : Nat) (args : List V) (rs : List ResultVar) (nt : Nat) (v : V) : Bool :=
  match preRun C call g p n q.pre ⟨T.ofList args, nt, [], 0⟩ with
  | some s => (match insOps C call p q.ops (s.c :: p) q.l ((⟨s.t, s.nt, s.σ, s.c + 1⟩ : St).put (some q.dm) (.map s.σ.length (s.c :: p))) [] with
    | some (s1, kvs) => (match s1.ev C q.tx with
      | .map _ st => (st == s.c :: p) && rounds (fun _ k v s2 => q.q.step C call g n p (.ptr s1.σ.length (s1.c :: p) 0) k v s2)
          (fun s2 => match q.q.last C call p (.ptr s1.σ.length (s1.c :: p) 0) s2 with | some s3 => q.fin C call g p n args 0 rs v s3 | none => false)
          kvs.length ((List.range kvs.length).zip kvs) ((⟨s1.t, s1.nt, s1.σ, s1.c + 1⟩ : St).put (some q.dr) (.ptr s1.σ.length (s1.c :: p) 0))
      | _ => false)
    | none => false)
  | none => false
theorem pre_sound {call : CallF} (hcall : CallOk C call) (hdraw : DrawOk C) (hhook : HookOk C) (hiter : IterOk C) (lo g n : Nat) {K : Code} {Q : Exit → Act → World → Prop} {M0 : Mp} {w0 : World} {s0 s' : St} (hlo : lo ≤ w0.heap.size) : ∀ (l : List Code) (s : St) (a : Act) (M : Mp) (w : World),
    (∀ c ∈ l, (∀ id ops, RegIn id ops c → ∃ fn c0, C.P.funcs[g]? = some fn ∧ fn.body = some c0 ∧ RegIn id ops c0) ∧ regsOk C g c = true) → preRun C call g p n l s = some s' → SR C B0 p M s a w → Nx B0 p M0 M s0 s w0 w → Mk lo M a w →
    (∀ M' a' w', SR C B0 p M' s' a' w' → Nx B0 p M0 M' s0 s' w0 w' → Mk lo M' a' w' → K.wp C.P Q a' w') → (l.foldr Code.seq K).wp C.P Q a w := by
  intro l
  induction l with
  | nil =>
    intro s a M w _ hr h hn hmk hK
    simp only [preRun, Option.some.injEq] at hr
    subst hr
    exact hK M a w h hn hmk
  | cons c l ih =>
    intro s a M w hc hr h hn hmk hK
    simp only [preRun] at hr
    split at hr
    case h_2 => cases hr
    rename_i s1 h1
    obtain ⟨g1, g2⟩ := hc c (by simp)
    show (Code.seq _ _).wp _ _ _ _
    refine wp_seq (wp_mono (code_sound hcall hdraw hhook hiter lo g n c s s1 .normal a M w g1 g2 h ⟨Nat.le_trans hlo hn.ext.below.size, hmk⟩ h1) ?_)
    rintro _ a' w' ⟨rfl, M', h', hn', hmk'⟩
    show (l.foldr Code.seq K).wp _ _ _ _
    exact ih s1 a' M' w' (fun c hc' => hc c (by simp [hc'])) hr h' (hn.trans hn') hmk' hK
theorem regIn_pre {id : Nat} {ops : Array Oper} {K c : Code} : ∀ {l : List Code}, c ∈ l → RegIn id ops c → RegIn id ops (l.foldr Code.seq K) := by
  intro l
  induction l with
  | nil => intro h; cases h
  | cons x l ih =>
    intro h hr
    rcases List.mem_cons.1 h with rfl | h
    · exact Or.inl hr
    · exact Or.inr (ih h hr)
theorem regIn_end {id : Nat} {ops : Array Oper} {K : Code} : ∀ {l : List Code}, RegIn id ops K → RegIn id ops (l.foldr Code.seq K) := by
  intro l
  induction l with
  | nil => exact fun h => h
  | cons x l ih => exact fun h => Or.inr (ih h)
theorem range_fun {call : CallF} (hcall : CallOk C call) (hdraw : DrawOk C) (hhook : HookOk C) (hiter : IterOk C) {f n : Nat} {fn : Func} {q : RangeF} (hf : C.P.funcs[f]? = some fn) (hc : fn.body = some q.code)
    (hpre : q.pre.all (regsOk C f) = true) (hZ : regsOk C f q.Z = true) (hnr : noR C f q.q.body = true) (hrb : regsOk C f q.q.body = true)
    {t0 t kt et tyA tyB ty1 ty2 : TypeId} {posA posB pos1 pos2 : String} {afA afB af1 af2 : Array Edge} (hom : q.om = ⟨some q.dm, .makeMap t0 none, tyA, posA, afA, none⟩) (hog : q.og = ⟨some q.dr, .range t q.tx, tyB, posB, afB, none⟩) (hsh : C.shape t = .map kt et)
    (ho1 : q.q.o1 = ⟨some q.q.d1, .next (.tmp q.q.it) false, ty1, pos1, af1, none⟩) (ho2 : q.q.o2 = ⟨some q.q.d2, .entry (.tmp q.q.it), ty2, pos2, af2, none⟩)
    {args : List V} {v : V} (hchk : q.chk C call f p n args fn.results.toList (max args.length fn.ntmps) v = true)
    {M : Mp} {w : World} {cargs : List Value} (hM : MR B0 M [] w) (hg : GR C M w) (hargs : RelL M w args cargs) (hm : ∀ q, M.m (q ++ p) = none) :
    Calls C.P f cargs.toArray w fun e w' => ∃ M' y, e = .returned y ∧ Rel M' w' v y ∧ Ext B0 M M' w w' ∧ MR B0 M' [] w' ∧ ([] : List O).length ≤ ([] : List O).length ∧
        (∀ st x, M'.m st = some x → M.m st = some x ∨ ∃ q, st = q ++ p) ∧
        (∀ (r : Nat) o st, ([] : List O)[r]? = some o → o.st = some st → (∃ o', ([] : List O)[r]? = some o' ∧ o'.st = some st) ∨ ∃ q, st = q ++ p) := by
  refine call_of_wp hf hc hM hg hargs hm (fun r o st q h => by simp at h) fun a h0 hmk => ?_
  obtain ⟨s0, hs0⟩ : ∃ s0 : St, s0 = ⟨T.ofList args, max args.length fn.ntmps, [], 0⟩ := ⟨_, rfl⟩
  unfold RangeF.chk at hchk
  rw [← hs0] at h0 hchk ⊢
  split at hchk
  case h_2 => cases hchk
  rename_i s hpr
  split at hchk
  case h_2 => cases hchk
  rename_i s1 kvs hins
  split at hchk
  case h_2 => cases hchk
  rename_i rm st htx
  rw [Bool.and_eq_true] at hchk
  obtain ⟨hst, hrd⟩ := hchk
  have hst : st = s.c :: p := by simpa using hst
  subst hst
  have hin : ∀ c, (∀ id ops, RegIn id ops c → RegIn id ops q.code) → ∀ id ops, RegIn id ops c → ∃ fn c0, C.P.funcs[f]? = some fn ∧ fn.body = some c0 ∧ RegIn id ops c0 := fun c h id ops hr => ⟨fn, q.code, hf, hc, h id ops hr⟩
  unfold RangeF.code
  refine pre_sound hcall hdraw hhook hiter w.heap.size f n (M0 := M) (w0 := w) (s0 := s0) (Nat.le_refl _) q.pre s0 a M w (fun c hcm => ⟨hin c fun id ops hr => regIn_pre hcm hr, List.all_eq_true.1 hpre c hcm⟩) hpr h0 (Nx.refl _) hmk fun M1 a1 w1 h1 hn1 hmk1 => ?_
  refine wp_seq ((wpIn_wide (n := 0)).1 ?_)
  unfold RangeF.Y
  refine wpIn_seq (wpIn_region_list ?_)
  show wpListIn (Fnc none) 0 _ q.ops _ (q.om :: (q.l ++ [q.og])) a1 w1
  obtain ⟨ops, hops⟩ : ∃ ops, ops = q.ops := ⟨_, rfl⟩
  rw [← hops] at hins
  rw [← hops, hom]
  refine make_in h1 fun M2 a2 w2 bm hbm hM2 h2 hn2 hd2 => ?_
  have hsz1 := hn1.ext.below.size
  have hFb : ∀ b, M.F b → b < w.heap.size := h0.mem.sep.flt
  have hbase : B0 ≤ w.heap.size := h0.mem.sep.base
  have hFb1 : ∀ b, M1.F b → b < w1.heap.size := h1.mem.sep.flt
  refine insOps_in hcall (M0 := M1) (w0 := w1) (s0 := s) (fun hF => by have := hFb1 _ hF; omega) (by omega) (kvs' := kvs) (s' := s1) (ds := a1.defers) (fun M3 a3 w3 es3 hM3 h3 hn3 hd3 => ?_) q.l _ [] #[] a2 M2 w2 hins h2 hn2 hM2 hd2
  rw [hog]
  refine range_in h3 hM3 htx hsh fun M4 a4 w4 li hm4 hF4 hFi hli hit4 hM4 h4 hn4 hd4 => ?_
  show (Code.block q.q.b0 q.q.code.loop).wpIn _ _ _ _ _ _
  refine wpIn_block (wpIn_loop_rounds (kvs.length + 1) ?_)
  have hsz3 := hn3.ext.below.size
  have hbl : bm < w3.heap.size := by
    have := hM3.heap
    exact (Array.getElem?_eq_some_iff.1 this).1
  refine range_loop hcall hdraw f n none 0 q.q hnr hrb ho1 ho2 (M0 := M1) (w0 := w1) (s0 := s) (ds := a1.defers) (bm := bm) (li := li) (st := s.c :: p) (es := es3) (kvs := kvs) (by omega) (fun hF => by have := hFb1 _ hF; omega) (by omega) (q.fin C call f p n args 0 fn.results.toList v) (fun M5 s5 a5 w5 hfin h5 hn5 hd5 => ?_) kvs.length _ _ a4 M4 w4 #[] hrd h4 (hn3.trans hn4) hM4 hm4 hF4 ⟨es3.size, Nat.le_refl _, hit4⟩ ?_ ?_ (hd4.trans hd3)
  · show q.Z.wp _ _ _ _
    unfold RangeF.fin at hfin
    split at hfin
    case h_2 => cases hfin
    rename_i e s6 hz
    split at hfin
    case h_2 => cases hfin
    rename_i v' σ' hdone
    rw [Bool.and_eq_true] at hfin
    obtain ⟨hv, hσ⟩ := hfin
    have hv := V.eqb_eq hv
    have hσ : σ' = [] := by simpa using hσ
    subst hσ; subst hv
    have hmk5 : Mk w.heap.size M5 a5 w5 := hmk1.mono hn5.ext hd5
    refine wp_mono (code_sound hcall hdraw hhook hiter w.heap.size f n q.Z s5 s6 e a5 M5 w5 (hin _ fun id ops hr => regIn_end (l := q.pre) (Or.inr hr)) hZ h5 ⟨Nat.le_trans hsz1 hn5.ext.below.size, hmk5⟩ hz) ?_
    rintro _ a6 w6 ⟨rfl, M6, h6, hn6, hmk6⟩
    exact ⟨e, s6, rfl, hdone, M6, h6, (hn1.trans hn5).trans hn6, hmk6⟩
  · have : (leftOf es3 #[]).toList = es3.toList := by
      unfold leftOf
      rw [Array.toList_filter]
      exact List.filter_eq_self.2 fun x hx => by simp
    rw [this, hM4.born]
    have hl : es3.size = kvs.length := by have := hM4.kv.1; simpa using this
    rw [List.map_fst_zip (by simp), hl]
  · intro x hx
    obtain ⟨j, hj⟩ := List.mem_iff_getElem?.1 hx
    rw [List.getElem?_zip_eq_some] at hj
    obtain ⟨g1, g2⟩ := hj
    have : x.1 = j := by
      have hjl := (List.getElem?_eq_some_iff.1 g1).1
      rw [List.getElem?_range (by simpa using hjl)] at g1
      exact (Option.some.inj g1).symm
    rw [this]; exact g2
def callT (f : Nat) (T : List (List V × V)) : CallF := fun f' args σ p => if f' = f ∧ σ = [] ∧ p = [0] then (T.find? fun x => V.eqbL x.1 args).map fun x => (x.2, []) else none
end
def sL : Code → Code | .seq a _ => a | _ => .skip
def sR : Code → Code | .seq _ b => b | _ => .skip
def bIn : Code → Code | .block _ a => a | .loop a => a | _ => .skip
def rOps : Code → List Oper | .region _ ops _ => ops.toList | _ => []
def bodyOf (fn : Func) : Code := match fn.body with | some c => c | none => .skip
def op0 : Oper := { dst := none, op := .move (.const (.bool false)), type := 0, pos := "", after := #[], guard := none }
end Go.Am
