/- The abstract machine: what is appended, for the simplifier. -/
import Derived.Test.YtibhpbpjdgodnaaGreatDoorAmFlat
namespace Go.Am
open Go
set_option linter.unusedVariables false
set_option linter.unusedSimpArgs false
def appendRaw := @appendA
def ifst (m : Nat) (a b : List Nat) : List Nat := if m = 0 then a else b
section
variable {C : Cfg} {t e : TypeId} {σ : List O} {r r2 n m B z : Nat} {st st2 st' : List Nat} {b : ByteArray} {cap2 : Option Nat} {cs row : List V} {cl : Bool} {x zv : V}
theorem roomy_of {k : Nat} (h : k ≤ 140737488355328) : roomy k = true := by simp [roomy, h]
theorem app_empty {news : List V} (he : C.elem t = some (e, z, zv)) (hb : C.bytes e = B) (hx : elems z σ x = some (m + 1, news)) (h : (m + 1) * B ≤ 140737488355328) :
    appendA C t σ st' (.arr [] 0 true) x = some (.sl σ.length st' 0 (m + 1) z none, σ ++ [.cells st' news]) := by
  simp only [appendA, he, Option.bind_some, hx]
  rw [if_neg (by omega), hb, Nat.zero_add, roomy_of h]
  simp [take?]
end
end Go.Am
