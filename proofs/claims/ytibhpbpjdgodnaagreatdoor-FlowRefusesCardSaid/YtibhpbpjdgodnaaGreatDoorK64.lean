/- One sum, by the fast machine. -/
import Derived.Test.YtibhpbpjdgodnaaGreatDoorJE
namespace Go.Am.R2
open Go.Proofs
set_option maxRecDepth 100000
noncomputable def in1 : List Nat := [5, 0, 0, 0, 0, 0, 0, 0, 0, 0, 0, 0, 0, 0, 0, 0, 0, 0, 0, 0, 0, 0, 0, 0, 0, 0, 0, 0, 0, 0, 0, 0, 0, 0, 0, 0, 0, 0, 0, 0, 0, 0, 0, 0, 0, 0, 0, 0, 0, 0, 0, 0, 0, 0, 0, 0, 0, 0, 0, 0, 0, 0, 0, 0, 0, 0, 0, 0, 0, 0, 0, 0, 0, 0, 0, 0, 0, 0, 0, 0, 0, 0, 0, 0, 0, 0, 0, 0, 0, 0, 0, 0, 0, 0, 0, 0, 0, 0, 0, 0, 0, 0, 0, 0, 0, 0, 0, 0, 0, 0, 0, 0, 0, 0, 0, 0, 0, 0, 0, 0, 0, 0, 0, 0, 0, 0, 0, 0]
noncomputable def out1 : List Nat := [239, 11, 67, 94, 138, 190, 103, 58, 163, 158, 80, 212, 181, 153, 113, 18, 183, 22, 107, 79, 234, 190, 186, 202, 95, 188, 30, 187, 74, 108, 144, 165]
theorem sum1_run : yesV (rootV DS 200 138 Tryz.f138 [.arr (ints .u8 (in1.map Int.ofNat)) 128 false] [0]) (.agg (ints .u8 (out1.map Int.ofNat))) = true := by decide +kernel
end Go.Am.R2
