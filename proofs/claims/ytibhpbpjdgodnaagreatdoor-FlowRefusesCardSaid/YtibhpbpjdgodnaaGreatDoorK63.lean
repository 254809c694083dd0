/- One sum, by the fast machine. -/
import Derived.Test.YtibhpbpjdgodnaaGreatDoorJE
namespace Go.Am.R2
open Go.Proofs
set_option maxRecDepth 100000
noncomputable def in0 : List Nat := [109, 0, 0, 0, 0, 0, 0, 0, 0, 0, 0, 0, 0, 0, 0, 0, 0, 0, 0, 0, 0, 0, 0, 0, 0, 0, 0, 0, 0, 0, 0, 0, 0, 0, 0, 0, 0, 0, 0, 0, 0, 0, 0, 0, 0, 0, 0, 0, 0, 0, 0, 0, 0, 0, 0, 0, 0, 0, 0, 0, 0, 0, 0, 0, 0, 0, 0, 0, 0, 0, 0, 0, 0, 0, 0, 0, 0, 0, 0, 0, 0, 0, 0, 0, 0, 0, 0, 0, 0, 0, 0, 0, 0, 0, 0, 0]
noncomputable def out0 : List Nat := [223, 65, 125, 116, 144, 145, 203, 191, 75, 142, 121, 177, 112, 200, 188, 88, 209, 149, 103, 177, 35, 198, 137, 184, 79, 39, 187, 173, 131, 125, 65, 191]
theorem sum0_run : yesV (rootV DS 200 138 Tryz.f138 [.arr (ints .u8 (in0.map Int.ofNat)) 96 false] [0]) (.agg (ints .u8 (out0.map Int.ofNat))) = true := by decide +kernel
end Go.Am.R2
