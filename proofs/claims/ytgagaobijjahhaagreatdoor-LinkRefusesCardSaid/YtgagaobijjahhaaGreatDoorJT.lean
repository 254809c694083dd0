/- Parts of one machine and of the walks over it, joined: AmApp AmOwn AmHook. -/
import Derived.Test.YtgagaobijjahhaaGreatDoorAmFlat
/- The abstract machine: what is appended, for the simplifier. -/
namespace Go.Am
open Go
set_option linter.unusedVariables false
set_option linter.unusedSimpArgs false
def appendRaw := @appendA
def ifst (m : Nat) (a b : List Nat) : List Nat := if m = 0 then a else b
section
variable {C : Cfg} {t e : TypeId} {σ : List O} {r r2 n m B z : Nat} {st st2 st' : List Nat} {b : ByteArray} {cap2 : Option Nat} {cs row : List V} {cl : Bool} {x zv : V}
theorem roomy_of {k : Nat} (h : k ≤ 140737488355328) : roomy k = true := by simp [roomy, h]
theorem app_empty {news : List V} (he : C.elem t = some (e, z, zv)) (hb : C.bytes e = B) (hx : elems z σ x = some (m + 1, news)) (h : (m + 1) * B ≤ 140737488355328) :
    appendA C t σ st' (.arr [] 0 true) x = some (.sl σ.length st' 0 (m + 1) z none, σ ++ [.cells st' news]) := by
  simp only [appendA, he, Option.bind_some, hx]
  rw [if_neg (by omega), hb, Nat.zero_add, roomy_of h]
  simp [take?]
end
end Go.Am

/- The abstract machine: slices that a function makes for itself, and that grow. -/
namespace Go.Am
open Go
set_option linter.unusedVariables false
set_option linter.unusedSimpArgs false
def Own (z : Nat) (σ L : List O) (x : V) (n : Nat) (cs : List V) : Prop :=
  cs.length = n * z ∧ ((x = .nils ∧ n = 0) ∨ ∃ k st, x = .sl (σ.length + k) st 0 n z none ∧ 0 < n ∧ rowAt L k st = some cs)
def mkS (z : Nat) (n : Nat) (cs : List V) : V := if n = 0 then .nils else .arr cs n false
section
variable {C : Cfg} {t e : TypeId} {σ L T : List O} {r n m B z k : Nat} {st st' : List Nat} {cs news : List V} {x v zv : V} {K : V × List O → Prop}
theorem Own.nil (z : Nat) (σ L : List O) : Own z σ L .nils 0 [] := ⟨by simp, .inl ⟨rfl, rfl⟩⟩
theorem Own.ext (h : Own z σ L x n cs) (T : List O) : Own z σ (L ++ T) x n cs := by
  obtain ⟨h1, h2 | ⟨k, st, h2, h0, h3⟩⟩ := h
  · exact ⟨h1, .inl h2⟩
  · exact ⟨h1, .inr ⟨k, st, h2, h0, rowAt_old h3⟩⟩
theorem Own.one (h : Own z σ L x n cs) : x.one = true := by
  obtain ⟨h1, ⟨rfl, _⟩ | ⟨k, st, rfl, hp, h3⟩⟩ := h <;> rfl
theorem Own.len (h : Own z σ L x n cs) (hs : C.shape t = .slice e) (σ' : List O) : lenA C t σ' x = some (.i .i64 n) := by
  obtain ⟨h1, ⟨rfl, rfl⟩ | ⟨k, st, rfl, hp, h3⟩⟩ := h
  · simp [lenA, hs]
  · simp [lenA, hs]
theorem Own.view (h : Own 1 σ L x n cs) : View (σ ++ L) x cs := by
  obtain ⟨h1, ⟨rfl, rfl⟩ | ⟨k, st, rfl, hp, h3⟩⟩ := h
  · exact List.eq_nil_of_length_eq_zero (by simpa using h1)
  · rw [Nat.mul_one] at h1
    refine ⟨rfl, h1.symm, fun c hc => by (cases hc), cs, by rw [rowAt_app]; exact h3, by omega, ?_⟩
    rw [List.drop_zero, ← h1, List.take_length]
end
/-! A function's answer, where it can't be named ahead. -/
section
variable {C : Cfg} {f base : Nat} {args : List V} {rs : List ResultVar} {p : List Nat} {s : St} {P : V × List O → Prop}
def DoneP (C : Cfg) (f : Nat) (p : List Nat) (base : Nat) (args : List V) (rs : List ResultVar) (P : V × List O → Prop) (e : Ex) (s : St) (_ : Tag P := .mk) : Prop := OptQ (doneA C f p base args rs (e, s)) P
theorem DoneP_ret (hk : C.keep f p = false) (he : C.esc f = []) : DoneP C f p base args rs P .ret s = OptQ (resA C s rs) fun vs => P (freeze base s.σ (tupled vs), s.σ.take base) := by
  simp only [DoneP, doneA, hk, Bool.false_eq_true, if_false, he, escape, OptQ_map]
theorem DoneP_normal : DoneP C f p base args rs P .normal s = DoneP C f p base args rs P .ret s := rfl
theorem run_doneP {σ : List O} {fn : Func} {c : Code} (h1 : C.prim f = none) (h2 : C.bar f = false) (h3 : C.P.funcs[f]? = some fn) (h4 : fn.body = some c)
    (h5 : Wq C f p c ⟨T.ofList args, max args.length fn.ntmps, σ, 0⟩ fun e s => DoneP C f p σ.length args fn.results.toList P e s) (hM : C.primM f = none := by rfl) : ∃ r, runF C f args σ p = some r ∧ P r := by
  obtain ⟨e, s', h5, r, h6, h7⟩ := h5
  exact ⟨r, run_intro h1 h2 h3 h4 h5 h6 hM, h7⟩
end
end Go.Am

/- Slices that were given more room than they were told of; regions whose orders come to the same but for names. -/
namespace Go.Am
open Go Go.RowKit
set_option linter.unusedVariables false
set_option linter.unusedSimpArgs false

def plainV : V → Bool
  | .b _ | .i _ _ | .s _ | .nilp | .nils | .nilm | .nilf | .nili => true
  | _ => false
section
variable {C : Cfg} {M M' M0 : Mp} {w w' w0 : World} {B0 : Nat} {p : List Nat} {σ σ' : List O}
def Mp.name (M : Mp) (st : List Nat) (x : Nat × Nat) : Mp := ⟨fun st' => if st' = st then some x else M.m st', M.F⟩
end
end Go.Am
