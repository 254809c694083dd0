/- The abstract machine: slices that a function makes for itself, and that grow. -/
import Derived.Test.YtibhpbpjdgodnaaGreatDoorAmApp
namespace Go.Am
open Go
set_option linter.unusedVariables false
set_option linter.unusedSimpArgs false
/-- A slice of one's own: so many elements of z cells each. -/
def Own (z : Nat) (σ L : List O) (x : V) (n : Nat) (cs : List V) : Prop :=
  cs.length = n * z ∧ ((x = .nils ∧ n = 0) ∨ ∃ k st, x = .sl (σ.length + k) st 0 n z none ∧ 0 < n ∧ rowAt L k st = some cs)
def mkS (z : Nat) (n : Nat) (cs : List V) : V := if n = 0 then .nils else .arr cs n false
section
variable {C : Cfg} {t e : TypeId} {σ L T : List O} {r n m B z k : Nat} {st st' : List Nat} {cs news : List V} {x v zv : V} {K : V × List O → Prop}
theorem Own.nil (z : Nat) (σ L : List O) : Own z σ L .nils 0 [] := ⟨by simp, .inl ⟨rfl, rfl⟩⟩
theorem Own.ext (h : Own z σ L x n cs) (T : List O) : Own z σ (L ++ T) x n cs := by
  obtain ⟨h1, h2 | ⟨k, st, h2, h0, h3⟩⟩ := h
  · exact ⟨h1, .inl h2⟩
  · exact ⟨h1, .inr ⟨k, st, h2, h0, rowAt_old h3⟩⟩
theorem Own.one (h : Own z σ L x n cs) : x.one = true := by
  obtain ⟨h1, ⟨rfl, _⟩ | ⟨k, st, rfl, hp, h3⟩⟩ := h <;> rfl
theorem Own.len (h : Own z σ L x n cs) (hs : C.shape t = .slice e) (σ' : List O) : lenA C t σ' x = some (.i .i64 n) := by
  obtain ⟨h1, ⟨rfl, rfl⟩ | ⟨k, st, rfl, hp, h3⟩⟩ := h
  · simp [lenA, hs]
  · simp [lenA, hs]
theorem Own.view (h : Own 1 σ L x n cs) : View (σ ++ L) x cs := by
  obtain ⟨h1, ⟨rfl, rfl⟩ | ⟨k, st, rfl, hp, h3⟩⟩ := h
  · exact List.eq_nil_of_length_eq_zero (by simpa using h1)
  · rw [Nat.mul_one] at h1
    refine ⟨rfl, h1.symm, fun c hc => by (cases hc), cs, by rw [rowAt_app]; exact h3, by omega, ?_⟩
    rw [List.drop_zero, ← h1, List.take_length]
theorem rowAt_lt' {τ : List O} {r : Nat} {st : List Nat} {cs : List V} (h : rowAt τ r st = some cs) : r < τ.length := by
  unfold rowAt at h
  split at h
  · rename_i hs; exact (List.getElem?_eq_some_iff.1 hs).1
  · cases h
theorem own_app (h : Own z σ L x n cs) (he : C.elem t = some (e, z, zv)) (hb : C.bytes e = B) (hz : 0 < z) (hx : elems z (σ ++ L) v = some (m, news)) (hm : news.length = m * z) (hr : (n + m) * B ≤ 140737488355328) :
    ∃ x' L', appendA C t (σ ++ L) st' x v = some (x', σ ++ L') ∧ Own z σ L' x' (n + m) (cs ++ news) := by
  obtain ⟨h1, h2⟩ := h
  by_cases h0 : m = 0
  · subst h0
    have : news = [] := List.eq_nil_of_length_eq_zero (by simpa using hm)
    subst this
    refine ⟨x, L, ?_, by simpa using h1, by simpa using h2⟩
    rcases h2 with ⟨rfl, _⟩ | ⟨k, st, rfl, hp, h3⟩
    · simp [appendA, he, hx]
    · simp [appendA, he, hx, rowAt_app, h3]
  · obtain ⟨m, rfl⟩ : ∃ j, m = j + 1 := ⟨m - 1, by omega⟩
    rcases h2 with ⟨rfl, rfl⟩ | ⟨k, st, rfl, hp, h3⟩
    · have : cs = [] := List.eq_nil_of_length_eq_zero (by simpa using h1)
      subst this
      refine ⟨_, L ++ [.cells st' news], ?_, by simpa using hm, .inr ⟨L.length, st', rfl, by omega, by rw [rowAt_app0, rowAt_cons0]; rfl⟩⟩
      rw [app0 he hb hx (by simpa using hr), List.length_append, List.append_assoc, Nat.zero_add]
    · have hlt := rowAt_lt' h3
      refine ⟨_, L.set k (.cells st' (cs ++ news)), ?_, by rw [List.length_append, h1, hm, ← Nat.add_mul], .inr ⟨k, st', rfl, by omega, ?_⟩⟩
      · rw [appZ he hb hz hx hr (by rw [rowAt_app]; exact h3) h1, set_app]
      · simp [rowAt, List.getElem?_set_self hlt]
theorem own_step (h : Own z σ L x n cs) (he : C.elem t = some (e, z, zv)) (hb : C.bytes e = B) (hz : 0 < z) (hx : elems z (σ ++ L) v = some (m, news)) (hm : news.length = m * z) (hr : (n + m) * B ≤ 140737488355328)
    (hk : ∀ x' L', Own z σ L' x' (n + m) (cs ++ news) → K (x', σ ++ L')) : OptQ (appendA C t (σ ++ L) st' x v) K := by
  obtain ⟨x', L', h1, h2⟩ := own_app h he hb hz hx hm hr
  exact ⟨_, h1, hk x' L' h2⟩
/-- What is handed back. -/
theorem own_frz (h : Own z σ L x n cs) (hf : ∀ c ∈ cs, c.fk ≠ none) : freezeC σ.length (σ ++ L) x = mkS z n cs := by
  obtain ⟨h1, ⟨rfl, rfl⟩ | ⟨k, st, rfl, hp, h3⟩⟩ := h
  · rfl
  · have hm : cs.map (freeze1 σ.length (σ ++ L) 3) = cs := by
      have : cs.map (freeze1 σ.length (σ ++ L) 3) = cs.map id := List.map_congr_left fun c hc => by
        have := hf c hc
        cases c <;> simp [V.fk] at this <;> rfl
      rw [this, List.map_id]
    simp only [freezeC, freeze1, if_pos (Nat.le_add_right σ.length k), rowAt_app, h3]
    unfold mkS
    rw [if_neg (by omega), if_neg (by omega)]
    · rw [List.drop_zero, ← h1, List.take_length, hm]; rfl
end
/-! A function's answer, where it can't be named ahead. -/
section
variable {C : Cfg} {f base : Nat} {args : List V} {rs : List ResultVar} {p : List Nat} {s : St} {P : V × List O → Prop}
def DoneP (C : Cfg) (f : Nat) (p : List Nat) (base : Nat) (args : List V) (rs : List ResultVar) (P : V × List O → Prop) (e : Ex) (s : St) (_ : Tag P := .mk) : Prop := OptQ (doneA C f p base args rs (e, s)) P
theorem DoneP_keep (hk : C.keep f p = true) : DoneP C f p base args rs P .ret s = OptQ (resA C s rs) fun vs => P (tupled vs, s.σ) := by
  simp only [DoneP, doneA, hk, if_true, OptQ_map]
theorem DoneP_ret (hk : C.keep f p = false) (he : C.esc f = []) : DoneP C f p base args rs P .ret s = OptQ (resA C s rs) fun vs => P (freeze base s.σ (tupled vs), s.σ.take base) := by
  simp only [DoneP, doneA, hk, Bool.false_eq_true, if_false, he, escape, OptQ_map]
theorem DoneP_normal : DoneP C f p base args rs P .normal s = DoneP C f p base args rs P .ret s := rfl
theorem run_doneP {σ : List O} {fn : Func} {c : Code} (h1 : C.prim f = none) (h2 : C.bar f = false) (h3 : C.P.funcs[f]? = some fn) (h4 : fn.body = some c)
    (h5 : Wq C f p c ⟨T.ofList args, max args.length fn.ntmps, σ, 0⟩ fun e s => DoneP C f p σ.length args fn.results.toList P e s) (hM : C.primM f = none := by rfl) : ∃ r, runF C f args σ p = some r ∧ P r := by
  obtain ⟨e, s', h5, r, h6, h7⟩ := h5
  exact ⟨r, run_intro h1 h2 h3 h4 h5 h6 hM, h7⟩
end
end Go.Am
