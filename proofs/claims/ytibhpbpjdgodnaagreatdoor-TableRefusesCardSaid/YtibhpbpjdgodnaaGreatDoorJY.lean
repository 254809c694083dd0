/- Parts of one machine and of the walks over it, joined: K69 K69b. -/
import Derived.Test.YtibhpbpjdgodnaaGreatDoorJF
/- The sheets' own questions, by the fast machine. -/
namespace Go.Am.R2
open Go.Proofs
set_option maxRecDepth 100000
theorem alive_run : yesV (rootB DE 400 7 Tryz.f7 [0]) (.b true) = true := by decide +kernel
end Go.Am.R2

/- The sheet of flows: its own question, by the fast machine. -/
namespace Go.Am.R2
open Go.Proofs
set_option maxRecDepth 100000
theorem alive24_run : yesV (rootB DE 400 24 Tryz.f24 [0]) (.b true) = true := by decide +kernel
end Go.Am.R2
