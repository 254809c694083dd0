/- One sum, by the fast machine. -/
import Derived.Test.YtibhpbpjdgodnaaGreatDoorJE
namespace Go.Am.R2
open Go.Proofs
set_option maxRecDepth 100000
noncomputable def in3 : List Nat := [255, 255, 255, 255, 255, 255, 255, 255, 0, 0, 0, 0, 0, 0, 0, 0, 0, 0, 0, 0, 0, 0, 0, 0, 0, 0, 0, 0, 0, 0, 0, 0, 0, 0, 0, 0, 0, 0, 0, 0, 29, 0, 0, 0, 216, 0, 0, 0, 4, 190, 220, 32, 169, 108, 73, 108, 214, 25, 87, 229, 207, 247, 241, 27, 27, 1, 61, 156, 39, 10, 161, 153, 247, 48, 84, 71, 253, 204, 195, 6, 255, 255, 255, 255, 255, 255, 255, 255, 0, 0, 0, 0, 0, 0, 0, 0, 0, 0, 0, 0, 0, 0, 0, 0, 0, 0, 0, 0, 0, 0, 0, 0, 0, 0, 0, 0, 0, 0, 0, 0, 0, 0, 0, 0, 0, 0, 0, 0]
noncomputable def out3 : List Nat := [209, 199, 218, 243, 202, 46, 65, 207, 44, 143, 224, 220, 17, 205, 127, 90, 246, 200, 248, 62, 240, 249, 225, 10, 141, 197, 34, 103, 200, 232, 221, 82]
theorem sum3_run : yesV (rootV DS 200 138 Tryz.f138 [.arr (ints .u8 (in3.map Int.ofNat)) 128 false] [0]) (.agg (ints .u8 (out3.map Int.ofNat))) = true := by decide +kernel
end Go.Am.R2
