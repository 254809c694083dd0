/- Parts of one machine and of the walks over it, joined: K63 K64 K6s5. -/
import Derived.Test.YtibhpbpjdgodnaaGreatDoorJE
/- One sum, by the fast machine. -/
namespace Go.Am.R2
open Go.Proofs
set_option maxRecDepth 100000
noncomputable def in0 : List Nat := [109, 0, 0, 0, 0, 0, 0, 0, 0, 0, 0, 0, 0, 0, 0, 0, 0, 0, 0, 0, 0, 0, 0, 0, 0, 0, 0, 0, 0, 0, 0, 0, 0, 0, 0, 0, 0, 0, 0, 0, 0, 0, 0, 0, 0, 0, 0, 0, 0, 0, 0, 0, 0, 0, 0, 0, 0, 0, 0, 0, 0, 0, 0, 0, 0, 0, 0, 0, 0, 0, 0, 0, 0, 0, 0, 0, 0, 0, 0, 0, 0, 0, 0, 0, 0, 0, 0, 0, 0, 0, 0, 0, 0, 0, 0, 0]
noncomputable def out0 : List Nat := [223, 65, 125, 116, 144, 145, 203, 191, 75, 142, 121, 177, 112, 200, 188, 88, 209, 149, 103, 177, 35, 198, 137, 184, 79, 39, 187, 173, 131, 125, 65, 191]
theorem sum0_run : yesV (rootV DS 200 138 Tryz.f138 [.arr (ints .u8 (in0.map Int.ofNat)) 96 false] [0]) (.agg (ints .u8 (out0.map Int.ofNat))) = true := by decide +kernel
end Go.Am.R2

/- One sum, by the fast machine. -/
namespace Go.Am.R2
open Go.Proofs
set_option maxRecDepth 100000
noncomputable def in1 : List Nat := [5, 0, 0, 0, 0, 0, 0, 0, 0, 0, 0, 0, 0, 0, 0, 0, 0, 0, 0, 0, 0, 0, 0, 0, 0, 0, 0, 0, 0, 0, 0, 0, 0, 0, 0, 0, 0, 0, 0, 0, 0, 0, 0, 0, 0, 0, 0, 0, 0, 0, 0, 0, 0, 0, 0, 0, 0, 0, 0, 0, 0, 0, 0, 0, 0, 0, 0, 0, 0, 0, 0, 0, 0, 0, 0, 0, 0, 0, 0, 0, 0, 0, 0, 0, 0, 0, 0, 0, 0, 0, 0, 0, 0, 0, 0, 0, 0, 0, 0, 0, 0, 0, 0, 0, 0, 0, 0, 0, 0, 0, 0, 0, 0, 0, 0, 0, 0, 0, 0, 0, 0, 0, 0, 0, 0, 0, 0, 0]
noncomputable def out1 : List Nat := [239, 11, 67, 94, 138, 190, 103, 58, 163, 158, 80, 212, 181, 153, 113, 18, 183, 22, 107, 79, 234, 190, 186, 202, 95, 188, 30, 187, 74, 108, 144, 165]
theorem sum1_run : yesV (rootV DS 200 138 Tryz.f138 [.arr (ints .u8 (in1.map Int.ofNat)) 128 false] [0]) (.agg (ints .u8 (out1.map Int.ofNat))) = true := by decide +kernel
end Go.Am.R2

/- One sum, by the fast machine. -/
namespace Go.Am.R2
open Go.Proofs
set_option maxRecDepth 100000
noncomputable def in5 : List Nat := [255, 255, 255, 255, 255, 255, 255, 255, 0, 0, 0, 0, 0, 0, 0, 0, 0, 0, 0, 0, 0, 0, 0, 0, 0, 0, 0, 0, 0, 0, 0, 0, 0, 0, 0, 0, 0, 0, 0, 0, 255, 255, 255, 255, 255, 255, 255, 255, 0, 0, 0, 0, 0, 0, 0, 0, 0, 0, 0, 0, 0, 0, 0, 0, 0, 0, 0, 0, 0, 0, 0, 0, 0, 0, 0, 0, 0, 0, 0, 0, 28, 0, 0, 0, 255, 255, 255, 255, 40, 254, 113, 171, 92, 116, 124, 211, 149, 185, 199, 13, 87, 12, 209, 43, 188, 161, 53, 0, 194, 83, 16, 156, 216, 54, 64, 161, 178, 101, 93, 93, 0, 0, 0, 0, 0, 0, 0, 0]
noncomputable def out5 : List Nat := [127, 161, 104, 114, 186, 28, 57, 228, 212, 144, 77, 93, 245, 181, 51, 218, 182, 185, 81, 3, 135, 25, 131, 160, 76, 87, 103, 217, 150, 211, 80, 44]
theorem sum5_run : yesV (rootV DS 200 138 Tryz.f138 [.arr (ints .u8 (in5.map Int.ofNat)) 128 false] [0]) (.agg (ints .u8 (out5.map Int.ofNat))) = true := by decide +kernel
end Go.Am.R2
