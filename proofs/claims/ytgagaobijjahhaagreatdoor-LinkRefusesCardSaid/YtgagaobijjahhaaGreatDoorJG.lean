/- Parts of one machine and of the walks over it, joined: KGa KGb KGz. -/
import Derived.Test.YtgagaobijjahhaaGreatDoorJF
/- A piece of the run. -/
namespace Go.Am.R2
open Go.Proofs
set_option maxRecDepth 100000
theorem seg1_run : segB DE 400 5 [0] Tryz.f5.ntmps 2 (bodyA) ⟨.l, ⟨0, .l⟩, 0⟩ seg1 = true := by decide +kernel
end Go.Am.R2

/- A piece of the run. -/
namespace Go.Am.R2
open Go.Proofs
set_option maxRecDepth 100000
theorem seg2_run : segB DE 400 5 [0] Tryz.f5.ntmps 1 (restC 2 bodyA) seg1 seg2 = true := by decide +kernel
end Go.Am.R2

/- The last piece of the run. -/
namespace Go.Am.R2
open Go.Proofs
set_option maxRecDepth 100000
theorem end_run : yesV (endB DE 400 5 Tryz.f5 [0] (restC 1 (restC 1 (restC 1 (restC 2 bodyA)))) seg4) (.b true) = true := by decide +kernel
end Go.Am.R2
