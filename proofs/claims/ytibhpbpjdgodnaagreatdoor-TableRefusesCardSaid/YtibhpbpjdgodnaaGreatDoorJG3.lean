/- Parts of one machine and of the walks over it, joined: K6s6 K6s7. -/
import Derived.Test.YtibhpbpjdgodnaaGreatDoorJE
/- One sum, by the fast machine. -/
namespace Go.Am.R2
open Go.Proofs
set_option maxRecDepth 100000
noncomputable def in6 : List Nat := [2, 0, 2, 0, 0, 0, 0, 0, 255, 255, 255, 255, 255, 255, 255, 255, 0, 0, 0, 0, 0, 0, 0, 0, 0, 0, 0, 0, 0, 0, 0, 0, 0, 0, 0, 0, 0, 0, 0, 0, 0, 0, 0, 0, 0, 0, 0, 0, 0, 0, 0, 0, 0, 0, 0, 0, 0, 0, 0, 0, 0, 0, 0, 0, 0, 0, 0, 0, 0, 0, 0, 0, 0, 0, 0, 0, 0, 0, 0, 0, 0, 0, 0, 0, 0, 0, 0, 0, 0, 0, 0, 0, 0, 0, 0, 0, 0, 0, 0, 0, 0, 0, 0, 0, 0, 0, 0, 0, 0, 0, 0, 0, 0, 0, 0, 0, 0, 0, 0, 0, 0, 0, 0, 0, 0, 0, 0, 0]
noncomputable def out6 : List Nat := [145, 118, 56, 177, 200, 191, 3, 89, 109, 61, 253, 217, 49, 6, 162, 208, 104, 153, 220, 97, 246, 223, 40, 78, 214, 90, 247, 160, 143, 206, 112, 220]
theorem sum6_run : yesV (rootV DS 200 138 Tryz.f138 [.arr (ints .u8 (in6.map Int.ofNat)) 128 false] [0]) (.agg (ints .u8 (out6.map Int.ofNat))) = true := by decide +kernel
end Go.Am.R2

/- One sum, by the fast machine. -/
namespace Go.Am.R2
open Go.Proofs
set_option maxRecDepth 100000
noncomputable def in7 : List Nat := [255, 255, 255, 255, 255, 255, 255, 255, 0, 0, 0, 0, 0, 0, 0, 0, 0, 0, 0, 0, 0, 0, 0, 0, 0, 0, 0, 0, 0, 0, 0, 0, 0, 0, 0, 0, 0, 0, 0, 0, 28, 0, 0, 0, 64, 2, 0, 0, 145, 118, 56, 177, 200, 191, 3, 89, 109, 61, 253, 217, 49, 6, 162, 208, 104, 153, 220, 97, 246, 223, 40, 78, 214, 90, 247, 160, 143, 206, 112, 220, 255, 255, 255, 255, 255, 255, 255, 255, 0, 0, 0, 0, 0, 0, 0, 0, 0, 0, 0, 0, 0, 0, 0, 0, 0, 0, 0, 0, 0, 0, 0, 0, 0, 0, 0, 0, 0, 0, 0, 0, 0, 0, 0, 0, 0, 0, 0, 0]
noncomputable def out7 : List Nat := [37, 214, 146, 55, 185, 230, 196, 200, 225, 158, 165, 115, 72, 87, 33, 69, 158, 208, 111, 121, 21, 21, 86, 76, 116, 48, 203, 8, 67, 3, 84, 27]
theorem sum7_run : yesV (rootV DS 200 138 Tryz.f138 [.arr (ints .u8 (in7.map Int.ofNat)) 128 false] [0]) (.agg (ints .u8 (out7.map Int.ofNat))) = true := by decide +kernel
end Go.Am.R2
