/- More facts of types. -/
import Derived.Test.YtijdfdkngbpodaaK0
namespace Go.Am.R1
open Go.Proofs
set_option maxRecDepth 100000
set_option linter.unusedVariables false
set_option linter.unusedSimpArgs false
theorem sh34 : cfg.shape 34 = .other := by kernel_rfl
theorem sz34 : cfg.size 34 = some 9 := by kernel_rfl
theorem by34 : cfg.bytes 34 = 96 := by kernel_rfl
theorem ag34 : cfg.isAgg 34 = some true := by kernel_rfl
theorem kn34 : known cfg 34 = true := by kernel_rfl
theorem ze34 : cfg.zero 34 = some (.agg [(.i .i64 0), (.i .i64 0), (.s .empty), (.i .i64 0), (.s .empty), (.i .i64 0), (.i .i64 0), (.i .i64 0), (.s .empty)]) := by kernel_rfl
theorem pl34 : cfg.places 34 = some [(0, 1), (1, 1), (2, 1), (3, 1), (4, 1), (5, 1), (6, 1), (7, 1), (8, 1)] := by kernel_rfl
theorem fi34x0 : cfg.field 34 0 = some (0, 3) := by kernel_rfl
theorem fi34x1 : cfg.field 34 1 = some (1, 3) := by kernel_rfl
theorem fi34x2 : cfg.field 34 2 = some (2, 9) := by kernel_rfl
theorem fi34x3 : cfg.field 34 3 = some (3, 3) := by kernel_rfl
theorem fi34x4 : cfg.field 34 4 = some (4, 9) := by kernel_rfl
theorem fi34x5 : cfg.field 34 5 = some (5, 3) := by kernel_rfl
theorem fi34x6 : cfg.field 34 6 = some (6, 3) := by kernel_rfl
theorem fi34x7 : cfg.field 34 7 = some (7, 3) := by kernel_rfl
theorem fi34x8 : cfg.field 34 8 = some (8, 9) := by kernel_rfl
theorem sh93 : cfg.shape 93 = .other := by kernel_rfl
theorem sz93 : cfg.size 93 = some 1 := by kernel_rfl
theorem by93 : cfg.bytes 93 = 8 := by kernel_rfl
theorem ag93 : cfg.isAgg 93 = some false := by kernel_rfl
theorem kn93 : known cfg 93 = true := by kernel_rfl
theorem ze93 : cfg.zero 93 = some .nilp := by kernel_rfl
theorem ld93 {σ : List O} {r o : Nat} {st : List Nat} : loadA cfg 93 σ (.ptr r st o) = (rowAt σ r st).bind fun cs => cs[o]? := load_sc ag93
theorem li93 {σ : List O} {cs : List V} : loadA cfg 93 σ (.iptr cs) = cs[0]? := load_ip ag93
theorem sto93 {σ : List O} {r o : Nat} {st : List Nat} {v : V} (hv : v.one = true) : storeA cfg 93 σ (.ptr r st o) v = (rowAt σ r st).bind fun cs => if o < cs.length then some (σ.set r (.cells st (cs.set o v))) else none := store_sc sz93 hv
theorem sh94 : cfg.shape 94 = .array 5 93 := by kernel_rfl
theorem sz94 : cfg.size 94 = some 5 := by kernel_rfl
theorem by94 : cfg.bytes 94 = 40 := by kernel_rfl
theorem ag94 : cfg.isAgg 94 = some true := by kernel_rfl
theorem kn94 : known cfg 94 = true := by kernel_rfl
theorem ze94 : cfg.zero 94 = some (.agg [.nilp, .nilp, .nilp, .nilp, .nilp]) := by kernel_rfl
theorem sh98 : cfg.shape 98 = .other := by kernel_rfl
theorem sz98 : cfg.size 98 = some 2 := by kernel_rfl
theorem by98 : cfg.bytes 98 = 32 := by kernel_rfl
theorem ag98 : cfg.isAgg 98 = some true := by kernel_rfl
theorem kn98 : known cfg 98 = true := by kernel_rfl
theorem ze98 : cfg.zero 98 = some (.agg [.nils, (.b false)]) := by kernel_rfl
theorem pl98 : cfg.places 98 = some [(0, 1), (1, 1)] := by kernel_rfl
theorem fi98x0 : cfg.field 98 0 = some (0, 22) := by kernel_rfl
theorem fi98x1 : cfg.field 98 1 = some (1, 4) := by kernel_rfl
theorem sh102 : cfg.shape 102 = .array 5 3 := by kernel_rfl
theorem sz102 : cfg.size 102 = some 5 := by kernel_rfl
theorem by102 : cfg.bytes 102 = 40 := by kernel_rfl
theorem ag102 : cfg.isAgg 102 = some true := by kernel_rfl
theorem kn102 : known cfg 102 = true := by kernel_rfl
theorem ze102 : cfg.zero 102 = some (.agg [(.i .i64 0), (.i .i64 0), (.i .i64 0), (.i .i64 0), (.i .i64 0)]) := by kernel_rfl
theorem sh104 : cfg.shape 104 = .array 2 9 := by kernel_rfl
theorem sz104 : cfg.size 104 = some 2 := by kernel_rfl
theorem by104 : cfg.bytes 104 = 32 := by kernel_rfl
theorem ag104 : cfg.isAgg 104 = some true := by kernel_rfl
theorem kn104 : known cfg 104 = true := by kernel_rfl
theorem ze104 : cfg.zero 104 = some (.agg [(.s .empty), (.s .empty)]) := by kernel_rfl
theorem sh127 : cfg.shape 127 = .other := by kernel_rfl
theorem sz127 : cfg.size 127 = some 7 := by kernel_rfl
theorem by127 : cfg.bytes 127 = 16 := by kernel_rfl
theorem ag127 : cfg.isAgg 127 = some true := by kernel_rfl
theorem kn127 : known cfg 127 = true := by kernel_rfl
theorem ze127 : cfg.zero 127 = some (.agg [(.b false), (.b false), (.b false), (.b false), (.b false), (.b false), (.i .i64 0)]) := by kernel_rfl
theorem pl127 : cfg.places 127 = some [(0, 1), (1, 1), (2, 1), (3, 1), (4, 1), (5, 1), (6, 1)] := by kernel_rfl
theorem fi127x0 : cfg.field 127 0 = some (0, 4) := by kernel_rfl
theorem fi127x1 : cfg.field 127 1 = some (1, 4) := by kernel_rfl
theorem fi127x2 : cfg.field 127 2 = some (2, 4) := by kernel_rfl
theorem fi127x3 : cfg.field 127 3 = some (3, 4) := by kernel_rfl
theorem fi127x4 : cfg.field 127 4 = some (4, 4) := by kernel_rfl
theorem fi127x5 : cfg.field 127 5 = some (5, 4) := by kernel_rfl
theorem fi127x6 : cfg.field 127 6 = some (6, 3) := by kernel_rfl
theorem sh142 : cfg.shape 142 = .int .u64 := by kernel_rfl
theorem sz142 : cfg.size 142 = some 1 := by kernel_rfl
theorem by142 : cfg.bytes 142 = 8 := by kernel_rfl
theorem ag142 : cfg.isAgg 142 = some false := by kernel_rfl
theorem kn142 : known cfg 142 = true := by kernel_rfl
theorem ze142 : cfg.zero 142 = some (.i .u64 0) := by kernel_rfl
theorem ld142 {σ : List O} {r o : Nat} {st : List Nat} : loadA cfg 142 σ (.ptr r st o) = (rowAt σ r st).bind fun cs => cs[o]? := load_sc ag142
theorem li142 {σ : List O} {cs : List V} : loadA cfg 142 σ (.iptr cs) = cs[0]? := load_ip ag142
theorem sto142 {σ : List O} {r o : Nat} {st : List Nat} {v : V} (hv : v.one = true) : storeA cfg 142 σ (.ptr r st o) v = (rowAt σ r st).bind fun cs => if o < cs.length then some (σ.set r (.cells st (cs.set o v))) else none := store_sc sz142 hv
end Go.Am.R1
