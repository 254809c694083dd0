/- Parts of one machine and of the walks over it, joined: KGc KGd. -/
import Derived.Test.YtgagaobijjahhaaGreatDoorJF
/- A piece of the run. -/
namespace Go.Am.R2
open Go.Proofs
set_option maxRecDepth 100000
theorem seg3_run : segB DE 400 5 [0] Tryz.f5.ntmps 1 (restC 1 (restC 2 bodyA)) seg2 seg3 = true := by decide +kernel
end Go.Am.R2

/- A piece of the run. -/
namespace Go.Am.R2
open Go.Proofs
set_option maxRecDepth 100000
theorem seg4_run : segB DE 400 5 [0] Tryz.f5.ntmps 1 (restC 1 (restC 1 (restC 2 bodyA))) seg3 seg4 = true := by decide +kernel
end Go.Am.R2
