/- One sum, by the fast machine. -/
import Derived.Test.YtibhpbpjdgodnaaGreatDoorJE
namespace Go.Am.R2
open Go.Proofs
set_option maxRecDepth 100000
noncomputable def in5 : List Nat := [255, 255, 255, 255, 255, 255, 255, 255, 0, 0, 0, 0, 0, 0, 0, 0, 0, 0, 0, 0, 0, 0, 0, 0, 0, 0, 0, 0, 0, 0, 0, 0, 0, 0, 0, 0, 0, 0, 0, 0, 255, 255, 255, 255, 255, 255, 255, 255, 0, 0, 0, 0, 0, 0, 0, 0, 0, 0, 0, 0, 0, 0, 0, 0, 0, 0, 0, 0, 0, 0, 0, 0, 0, 0, 0, 0, 0, 0, 0, 0, 28, 0, 0, 0, 255, 255, 255, 255, 40, 254, 113, 171, 92, 116, 124, 211, 149, 185, 199, 13, 87, 12, 209, 43, 188, 161, 53, 0, 194, 83, 16, 156, 216, 54, 64, 161, 178, 101, 93, 93, 0, 0, 0, 0, 0, 0, 0, 0]
noncomputable def out5 : List Nat := [127, 161, 104, 114, 186, 28, 57, 228, 212, 144, 77, 93, 245, 181, 51, 218, 182, 185, 81, 3, 135, 25, 131, 160, 76, 87, 103, 217, 150, 211, 80, 44]
theorem sum5_run : yesV (rootV DS 200 138 Tryz.f138 [.arr (ints .u8 (in5.map Int.ofNat)) 128 false] [0]) (.agg (ints .u8 (out5.map Int.ofNat))) = true := by decide +kernel
end Go.Am.R2
