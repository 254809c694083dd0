/- Functions without a body here, and functions told by contracts: how they stand in the machine. -/
import Derived.Test.YtgagaobijjahhaaGreatDoorAmFlat
import Derived.Laws.Externs
import Derived.Lib.Bytealg
namespace Go.Am
open Go Go.RowKit
set_option linter.unusedVariables false
set_option linter.unusedSimpArgs false
def PrimAt (C : Cfg) (f : Nat) (g : List V → List O → Option V) : Prop :=
  ∀ (B0 : Nat) (args : List V) (σ : List O) (p : List Nat) (v : V), g args σ = some v →
    ∀ (M : Mp) (w : World) (cargs : List Value), MR B0 M σ w → GR C M w → RelL M w args cargs → (∀ q, M.m (q ++ p) = none) → (∀ (r : Nat) o st q, σ[r]? = some o → o.st = some st → st ≠ q ++ p) →
    ∃ nx w1 M1, (callFunc f cargs.toArray).run C.P w = .ok nx w1 ∧ Ext B0 M M1 w w1 ∧ MR B0 M1 σ w1 ∧ M1 = M ∧
      ((∃ y, nx = .value y ∧ Rel M1 w1 v y ∧ σ = σ) ∨
       (nx = .enter f cargs.toArray ∧ Calls C.P f cargs.toArray w1 fun e w' => ∃ M' y, e = .returned y ∧ Rel M' w' v y ∧ Ext B0 M1 M' w1 w' ∧ MR B0 M' σ w' ∧ σ.length ≤ σ.length ∧
        (∀ st x, M'.m st = some x → M1.m st = some x ∨ ∃ q, st = q ++ p) ∧
        (∀ (r : Nat) o st, σ[r]? = some o → o.st = some st → (∃ o', σ[r]? = some o' ∧ o'.st = some st) ∨ ∃ q, st = q ++ p)))
theorem primOk_of {C : Cfg} (h : ∀ f g, C.prim f = some g → PrimAt C f g) : PrimOkV C := fun B0 f g hf args σ p v hv => h f g hf B0 args σ p v hv
theorem prim_value {C : Cfg} {f : Nat} {g : List V → List O → Option V} (h : ∀ (M : Mp) (w : World) (args : List V) (σ : List O) (cargs : List Value) (v : V), g args σ = some v → RelL M w args cargs → ∃ y, (callFunc f cargs.toArray).run C.P w = .ok (.value y) w ∧ Rel M w v y) : PrimAt C f g := by
  intro B0 args σ p v hv M w cargs hM hG hr hm hs
  obtain ⟨y, h1, h2⟩ := h M w args σ cargs v hv hr
  exact ⟨_, w, M, h1, Ext.refl _ _ _, hM, rfl, .inl ⟨y, rfl, h2, rfl⟩⟩
def pIndexByte : List V → List O → Option V
  | [.s b, .i .u8 c], _ => some (.i .i64 (Lib.indexByte b.data.toList c.toNat.toUInt8))
  | _, _ => none
def pCompare : List V → List O → Option V
  | [.s a, .s b], _ => some (.i .i64 (Lib.compareBytes a.data.toList b.data.toList))
  | _, _ => none
theorem prim_indexByte {C : Cfg} {f : Nat} {fn : Func} (hf : C.P.funcs[f]? = some fn) (hname : (fn.name == "runtime.NumGoroutine") = false) (hb : fn.body.isNone = true) (hn : Extern.findNext fn = none) (he : Extern.find fn = some Extern.BytealgIndexByte.indexByte) : PrimAt C f pIndexByte := by
  refine prim_value fun M w args σ cargs v hv hr => ?_
  unfold pIndexByte at hv
  split at hv
  · rename_i b c
    cases hv
    cases hr with
    | cons x y xs ys h1 h2 =>
      cases h2 with
      | cons x2 y2 xs2 ys2 h3 h4 =>
        cases h4
        obtain rfl := h1.s_inv
        obtain rfl := h3.i_inv
        refine ⟨_, ?_, .i _ _⟩
        rw [run_callFunc_extern hf hname hb hn he, Lib.run_indexByteString]; rfl
  · cases hv
end Go.Am
