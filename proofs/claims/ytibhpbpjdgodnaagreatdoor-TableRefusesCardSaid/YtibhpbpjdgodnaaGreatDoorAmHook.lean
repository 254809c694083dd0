/- Slices that were given more room than they were told of; regions whose orders come to the same but for names. -/
import Derived.Test.YtibhpbpjdgodnaaGreatDoorAmOwn
namespace Go.Am
open Go Go.RowKit
set_option linter.unusedVariables false
set_option linter.unusedSimpArgs false

def plainV : V → Bool
  | .b _ | .i _ _ | .s _ | .nilp | .nils | .nilm | .nilf | .nili => true
  | _ => false
section
variable {C : Cfg} {M M' M0 : Mp} {w w' w0 : World} {B0 : Nat} {p : List Nat} {σ σ' : List O}
/-- A row under a new name; others gone. -/
def Mp.name (M : Mp) (st : List Nat) (x : Nat × Nat) : Mp := ⟨fun st' => if st' = st then some x else M.m st', M.F⟩
end
end Go.Am
