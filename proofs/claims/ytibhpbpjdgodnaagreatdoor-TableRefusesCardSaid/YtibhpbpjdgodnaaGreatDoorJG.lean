/- Parts of one machine and of the walks over it, joined: K65 K66 K6s4. -/
import Derived.Test.YtibhpbpjdgodnaaGreatDoorJE
/- One sum, by the fast machine. -/
namespace Go.Am.R2
open Go.Proofs
set_option maxRecDepth 100000
noncomputable def in2 : List Nat := [28, 0, 0, 0, 255, 255, 255, 255, 239, 11, 67, 94, 138, 190, 103, 58, 163, 158, 80, 212, 181, 153, 113, 18, 183, 22, 107, 79, 234, 190, 186, 202, 95, 188, 30, 187, 74, 108, 144, 165, 255, 255, 255, 255, 255, 255, 255, 255, 0, 0, 0, 0, 0, 0, 0, 0, 0, 0, 0, 0, 0, 0, 0, 0, 0, 0, 0, 0, 0, 0, 0, 0, 0, 0, 0, 0, 0, 0, 0, 0, 255, 255, 255, 255, 255, 255, 255, 255, 0, 0, 0, 0, 0, 0, 0, 0, 0, 0, 0, 0, 0, 0, 0, 0, 0, 0, 0, 0, 0, 0, 0, 0, 0, 0, 0, 0, 0, 0, 0, 0, 0, 0, 0, 0, 0, 0, 0, 0]
noncomputable def out2 : List Nat := [4, 190, 220, 32, 169, 108, 73, 108, 214, 25, 87, 229, 207, 247, 241, 27, 27, 1, 61, 156, 39, 10, 161, 153, 247, 48, 84, 71, 253, 204, 195, 6]
theorem sum2_run : yesV (rootV DS 200 138 Tryz.f138 [.arr (ints .u8 (in2.map Int.ofNat)) 128 false] [0]) (.agg (ints .u8 (out2.map Int.ofNat))) = true := by decide +kernel
end Go.Am.R2

/- One sum, by the fast machine. -/
namespace Go.Am.R2
open Go.Proofs
set_option maxRecDepth 100000
noncomputable def in3 : List Nat := [255, 255, 255, 255, 255, 255, 255, 255, 0, 0, 0, 0, 0, 0, 0, 0, 0, 0, 0, 0, 0, 0, 0, 0, 0, 0, 0, 0, 0, 0, 0, 0, 0, 0, 0, 0, 0, 0, 0, 0, 29, 0, 0, 0, 216, 0, 0, 0, 4, 190, 220, 32, 169, 108, 73, 108, 214, 25, 87, 229, 207, 247, 241, 27, 27, 1, 61, 156, 39, 10, 161, 153, 247, 48, 84, 71, 253, 204, 195, 6, 255, 255, 255, 255, 255, 255, 255, 255, 0, 0, 0, 0, 0, 0, 0, 0, 0, 0, 0, 0, 0, 0, 0, 0, 0, 0, 0, 0, 0, 0, 0, 0, 0, 0, 0, 0, 0, 0, 0, 0, 0, 0, 0, 0, 0, 0, 0, 0]
noncomputable def out3 : List Nat := [209, 199, 218, 243, 202, 46, 65, 207, 44, 143, 224, 220, 17, 205, 127, 90, 246, 200, 248, 62, 240, 249, 225, 10, 141, 197, 34, 103, 200, 232, 221, 82]
theorem sum3_run : yesV (rootV DS 200 138 Tryz.f138 [.arr (ints .u8 (in3.map Int.ofNat)) 128 false] [0]) (.agg (ints .u8 (out3.map Int.ofNat))) = true := by decide +kernel
end Go.Am.R2

/- One sum, by the fast machine. -/
namespace Go.Am.R2
open Go.Proofs
set_option maxRecDepth 100000
noncomputable def in4 : List Nat := [0, 0, 0, 0, 0, 0, 0, 0, 0, 0, 0, 0, 0, 0, 0, 0, 0, 0, 0, 0, 0, 0, 0, 0, 0, 0, 0, 0, 0, 0, 0, 0, 0, 0, 0, 0, 0, 0, 0, 0, 0, 0, 0, 0, 120, 121, 0, 0, 0, 0, 0, 0, 0, 0, 0, 0, 0, 0, 0, 0, 0, 0, 0, 0, 0, 0, 0, 0, 0, 0, 0, 0, 0, 0, 0, 0, 0, 0, 0, 0, 0, 0, 0, 0, 0, 0, 0, 0, 0, 0, 0, 0, 0, 0, 0, 0, 0, 0, 0, 0, 0, 0, 0, 0, 0, 0, 0, 0, 0, 0, 0, 0, 0, 0, 0, 0, 0, 0, 0, 0, 0, 0, 0, 0, 0, 0, 0, 0]
noncomputable def out4 : List Nat := [40, 254, 113, 171, 92, 116, 124, 211, 149, 185, 199, 13, 87, 12, 209, 43, 188, 161, 53, 0, 194, 83, 16, 156, 216, 54, 64, 161, 178, 101, 93, 93]
theorem sum4_run : yesV (rootV DS 200 138 Tryz.f138 [.arr (ints .u8 (in4.map Int.ofNat)) 128 false] [0]) (.agg (ints .u8 (out4.map Int.ofNat))) = true := by decide +kernel
end Go.Am.R2
