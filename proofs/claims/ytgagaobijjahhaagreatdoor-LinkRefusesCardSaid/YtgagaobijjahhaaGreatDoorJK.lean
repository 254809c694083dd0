/- Parts of one machine and of the walks over it, joined: L4f L9. -/
import Derived.Test.YtgagaobijjahhaaGreatDoorJI
import Derived.Test.YtgagaobijjahhaaGreatDoorJE
import Derived.Test.YtgagaobijjahhaaGreatDoorJR
import Derived.Test.YtgagaobijjahhaaGreatDoorCards
import Derived.Lib.LaidTab
import Derived.LaidLaws
/- Facts of types, for the laws. -/
namespace Go.Am.R2L
open Go.Proofs
set_option maxRecDepth 100000
set_option linter.unusedVariables false
set_option linter.unusedSimpArgs false
theorem sh3 : cfg.shape 3 = .int .i64 := by kernel_rfl
theorem sz3 : cfg.size 3 = some 1 := by kernel_rfl
theorem by3 : cfg.bytes 3 = 8 := by kernel_rfl
theorem ag3 : cfg.isAgg 3 = some false := by kernel_rfl
theorem kn3 : known cfg 3 = true := by kernel_rfl
theorem ze3 : cfg.zero 3 = some (.i .i64 0) := by kernel_rfl
theorem sz5 : cfg.size 5 = some 1 := by kernel_rfl
theorem ag5 : cfg.isAgg 5 = some false := by kernel_rfl
theorem sh28 : cfg.shape 28 = .slice 116 := by kernel_rfl
theorem sz28 : cfg.size 28 = some 1 := by kernel_rfl
theorem by28 : cfg.bytes 28 = 24 := by kernel_rfl
theorem ag28 : cfg.isAgg 28 = some false := by kernel_rfl
theorem kn28 : known cfg 28 = true := by kernel_rfl
theorem el28 : cfg.elem 28 = some (116, 129, (.agg [(.i .i64 0), .i .u8 0, .i .u8 0, .i .u8 0, .i .u8 0, .i .u8 0, .i .u8 0, .i .u8 0, .i .u8 0, .i .u8 0, .i .u8 0, .i .u8 0, .i .u8 0, .i .u8 0, .i .u8 0, .i .u8 0, .i .u8 0, .i .u8 0, .i .u8 0, .i .u8 0, .i .u8 0, .i .u8 0, .i .u8 0, .i .u8 0, .i .u8 0, .i .u8 0, .i .u8 0, .i .u8 0, .i .u8 0, .i .u8 0, .i .u8 0, .i .u8 0, .i .u8 0, .i .u8 0, .i .u8 0, .i .u8 0, .i .u8 0, .i .u8 0, .i .u8 0, .i .u8 0, .i .u8 0, .i .u8 0, .i .u8 0, .i .u8 0, .i .u8 0, .i .u8 0, .i .u8 0, .i .u8 0, .i .u8 0, .i .u8 0, .i .u8 0, .i .u8 0, .i .u8 0, .i .u8 0, .i .u8 0, .i .u8 0, .i .u8 0, .i .u8 0, .i .u8 0, .i .u8 0, .i .u8 0, .i .u8 0, .i .u8 0, .i .u8 0, .i .u8 0, .i .u8 0, .i .u8 0, .i .u8 0, .i .u8 0, .i .u8 0, .i .u8 0, .i .u8 0, .i .u8 0, .i .u8 0, .i .u8 0, .i .u8 0, .i .u8 0, .i .u8 0, .i .u8 0, .i .u8 0, .i .u8 0, .i .u8 0, .i .u8 0, .i .u8 0, .i .u8 0, .i .u8 0, .i .u8 0, .i .u8 0, .i .u8 0, .i .u8 0, .i .u8 0, .i .u8 0, .i .u8 0, .i .u8 0, .i .u8 0, .i .u8 0, .i .u8 0, .i .u8 0, .i .u8 0, .i .u8 0, .i .u8 0, .i .u8 0, .i .u8 0, .i .u8 0, .i .u8 0, .i .u8 0, .i .u8 0, .i .u8 0, .i .u8 0, .i .u8 0, .i .u8 0, .i .u8 0, .i .u8 0, .i .u8 0, .i .u8 0, .i .u8 0, .i .u8 0, .i .u8 0, .i .u8 0, .i .u8 0, .i .u8 0, .i .u8 0, .i .u8 0, .i .u8 0, .i .u8 0, .i .u8 0, .i .u8 0, .i .u8 0, (.i .u8 0)])) := by kernel_rfl
theorem ze28 : cfg.zero 28 = some .nils := by kernel_rfl
theorem sh30 : cfg.shape 30 = .other := by kernel_rfl
theorem sz30 : cfg.size 30 = some 4 := by kernel_rfl
theorem by30 : cfg.bytes 30 = 64 := by kernel_rfl
theorem ag30 : cfg.isAgg 30 = some true := by kernel_rfl
theorem kn30 : known cfg 30 = true := by kernel_rfl
theorem ze30 : cfg.zero 30 = some (.agg [.nils, .nils, (.i .i64 0), (.b false)]) := by kernel_rfl
theorem pl30 : cfg.places 30 = some [(0, 1), (1, 1), (2, 1), (3, 1)] := by kernel_rfl
theorem sh37 : cfg.shape 37 = .other := by kernel_rfl
theorem sz37 : cfg.size 37 = some 4 := by kernel_rfl
theorem by37 : cfg.bytes 37 = 48 := by kernel_rfl
theorem ag37 : cfg.isAgg 37 = some true := by kernel_rfl
theorem kn37 : known cfg 37 = true := by kernel_rfl
theorem ze37 : cfg.zero 37 = some (.agg [(.i .i64 0), (.i .i64 0), (.i .i64 0), .nils]) := by kernel_rfl
theorem pl37 : cfg.places 37 = some [(0, 2), (2, 1), (3, 1)] := by kernel_rfl
theorem sh39 : cfg.shape 39 = .other := by kernel_rfl
theorem sz39 : cfg.size 39 = some 10 := by kernel_rfl
theorem by39 : cfg.bytes 39 = 144 := by kernel_rfl
theorem ag39 : cfg.isAgg 39 = some true := by kernel_rfl
theorem kn39 : known cfg 39 = true := by kernel_rfl
theorem ze39 : cfg.zero 39 = some (.agg [.nils, .nils, (.i .i64 0), (.b false), (.i .i64 0), .nils, (.i .i64 0), (.i .i64 0), (.i .i64 0), .nils]) := by kernel_rfl
theorem pl39 : cfg.places 39 = some [(0, 4), (4, 2), (6, 4)] := by kernel_rfl
theorem sh42 : cfg.shape 42 = .other := by kernel_rfl
theorem sz42 : cfg.size 42 = some 34 := by kernel_rfl
theorem by42 : cfg.bytes 42 = 48 := by kernel_rfl
theorem ag42 : cfg.isAgg 42 = some true := by kernel_rfl
theorem kn42 : known cfg 42 = true := by kernel_rfl
theorem ze42 : cfg.zero 42 = some (.agg [(.i .i64 0), (.i .i64 0), .i .u8 0, .i .u8 0, .i .u8 0, .i .u8 0, .i .u8 0, .i .u8 0, .i .u8 0, .i .u8 0, .i .u8 0, .i .u8 0, .i .u8 0, .i .u8 0, .i .u8 0, .i .u8 0, .i .u8 0, .i .u8 0, .i .u8 0, .i .u8 0, .i .u8 0, .i .u8 0, .i .u8 0, .i .u8 0, .i .u8 0, .i .u8 0, .i .u8 0, .i .u8 0, .i .u8 0, .i .u8 0, .i .u8 0, .i .u8 0, .i .u8 0, (.i .u8 0)]) := by kernel_rfl
theorem fk42 : flat cfg 20 42 = some ([(.i .i64), (.i .i64)] ++ List.replicate 32 (.i .u8) : List Fk) := by kernel_rfl
theorem pl42 : cfg.places 42 = some [(0, 1), (1, 1), (2, 32)] := by kernel_rfl
theorem sh44 : cfg.shape 44 = .other := by kernel_rfl
theorem sz44 : cfg.size 44 = some 36 := by kernel_rfl
theorem by44 : cfg.bytes 44 = 64 := by kernel_rfl
theorem ag44 : cfg.isAgg 44 = some true := by kernel_rfl
theorem kn44 : known cfg 44 = true := by kernel_rfl
theorem ze44 : cfg.zero 44 = some (.agg [(.i .i64 0), (.i .i64 0), .i .u8 0, .i .u8 0, .i .u8 0, .i .u8 0, .i .u8 0, .i .u8 0, .i .u8 0, .i .u8 0, .i .u8 0, .i .u8 0, .i .u8 0, .i .u8 0, .i .u8 0, .i .u8 0, .i .u8 0, .i .u8 0, .i .u8 0, .i .u8 0, .i .u8 0, .i .u8 0, .i .u8 0, .i .u8 0, .i .u8 0, .i .u8 0, .i .u8 0, .i .u8 0, .i .u8 0, .i .u8 0, .i .u8 0, .i .u8 0, .i .u8 0, .i .u8 0, (.i .i64 0), (.i .i64 0)]) := by kernel_rfl
theorem fk44 : flat cfg 20 44 = some ([(.i .i64), (.i .i64)] ++ List.replicate 32 (.i .u8) ++ [(.i .i64), (.i .i64)] : List Fk) := by kernel_rfl
theorem pl44 : cfg.places 44 = some [(0, 34), (34, 1), (35, 1)] := by kernel_rfl
theorem sh51 : cfg.shape 51 = .other := by kernel_rfl
theorem sz51 : cfg.size 51 = some 1 := by kernel_rfl
theorem by51 : cfg.bytes 51 = 8 := by kernel_rfl
theorem ag51 : cfg.isAgg 51 = some false := by kernel_rfl
theorem kn51 : known cfg 51 = true := by kernel_rfl
theorem ze51 : cfg.zero 51 = some .nilp := by kernel_rfl
theorem sh52 : cfg.shape 52 = .other := by kernel_rfl
theorem sz52 : cfg.size 52 = some 1 := by kernel_rfl
theorem by52 : cfg.bytes 52 = 8 := by kernel_rfl
theorem ag52 : cfg.isAgg 52 = some false := by kernel_rfl
theorem kn52 : known cfg 52 = true := by kernel_rfl
theorem ze52 : cfg.zero 52 = some .nilp := by kernel_rfl
theorem sh86 : cfg.shape 86 = .other := by kernel_rfl
theorem sz86 : cfg.size 86 = some 39 := by kernel_rfl
theorem by86 : cfg.bytes 86 = 88 := by kernel_rfl
theorem ag86 : cfg.isAgg 86 = some true := by kernel_rfl
theorem kn86 : known cfg 86 = true := by kernel_rfl
theorem ze86 : cfg.zero 86 = some (.agg [(.i .i64 0), (.i .i64 0), (.i .i64 0), (.i .i64 0), (.i .i64 0), .i .u8 0, .i .u8 0, .i .u8 0, .i .u8 0, .i .u8 0, .i .u8 0, .i .u8 0, .i .u8 0, .i .u8 0, .i .u8 0, .i .u8 0, .i .u8 0, .i .u8 0, .i .u8 0, .i .u8 0, .i .u8 0, .i .u8 0, .i .u8 0, .i .u8 0, .i .u8 0, .i .u8 0, .i .u8 0, .i .u8 0, .i .u8 0, .i .u8 0, .i .u8 0, .i .u8 0, .i .u8 0, .i .u8 0, .i .u8 0, .i .u8 0, .i .u8 0, (.i .i64 0), (.i .i64 0)]) := by kernel_rfl
theorem fk86 : flat cfg 20 86 = some (List.replicate 5 (.i .i64) ++ List.replicate 32 (.i .u8) ++ [(.i .i64), (.i .i64)] : List Fk) := by kernel_rfl
theorem pl86 : cfg.places 86 = some [(0, 1), (1, 1), (2, 1), (3, 36)] := by kernel_rfl
theorem sz116 : cfg.size 116 = some 129 := by kernel_rfl
theorem sh132 : cfg.shape 132 = .array 64 5 := by kernel_rfl
theorem sz132 : cfg.size 132 = some 64 := by kernel_rfl
theorem by132 : cfg.bytes 132 = 64 := by kernel_rfl
theorem ag132 : cfg.isAgg 132 = some true := by kernel_rfl
theorem kn132 : known cfg 132 = true := by kernel_rfl
theorem ze132 : cfg.zero 132 = some (.agg [.i .u8 0, .i .u8 0, .i .u8 0, .i .u8 0, .i .u8 0, .i .u8 0, .i .u8 0, .i .u8 0, .i .u8 0, .i .u8 0, .i .u8 0, .i .u8 0, .i .u8 0, .i .u8 0, .i .u8 0, .i .u8 0, .i .u8 0, .i .u8 0, .i .u8 0, .i .u8 0, .i .u8 0, .i .u8 0, .i .u8 0, .i .u8 0, .i .u8 0, .i .u8 0, .i .u8 0, .i .u8 0, .i .u8 0, .i .u8 0, .i .u8 0, .i .u8 0, .i .u8 0, .i .u8 0, .i .u8 0, .i .u8 0, .i .u8 0, .i .u8 0, .i .u8 0, .i .u8 0, .i .u8 0, .i .u8 0, .i .u8 0, .i .u8 0, .i .u8 0, .i .u8 0, .i .u8 0, .i .u8 0, .i .u8 0, .i .u8 0, .i .u8 0, .i .u8 0, .i .u8 0, .i .u8 0, .i .u8 0, .i .u8 0, .i .u8 0, .i .u8 0, .i .u8 0, .i .u8 0, .i .u8 0, .i .u8 0, .i .u8 0, (.i .u8 0)]) := by kernel_rfl
theorem fk132 : flat cfg 20 132 = some (List.replicate 64 (.i .u8) : List Fk) := by kernel_rfl
theorem ld3 {σ : List O} {r o : Nat} {st : List Nat} : loadA cfg 3 σ (.ptr r st o) = (rowAt σ r st).bind fun cs => cs[o]? := load_sc ag3
theorem li3 {σ : List O} {cs : List V} : loadA cfg 3 σ (.iptr cs) = cs[0]? := load_ip ag3
theorem sto3 {σ : List O} {r o : Nat} {st : List Nat} {v : V} (hv : v.one = true) : storeA cfg 3 σ (.ptr r st o) v = (rowAt σ r st).bind fun cs => if o < cs.length then some (σ.set r (.cells st (cs.set o v))) else none := store_sc sz3 hv
theorem ld28 {σ : List O} {r o : Nat} {st : List Nat} : loadA cfg 28 σ (.ptr r st o) = (rowAt σ r st).bind fun cs => cs[o]? := load_sc ag28
theorem li28 {σ : List O} {cs : List V} : loadA cfg 28 σ (.iptr cs) = cs[0]? := load_ip ag28
theorem sto28 {σ : List O} {r o : Nat} {st : List Nat} {v : V} (hv : v.one = true) : storeA cfg 28 σ (.ptr r st o) v = (rowAt σ r st).bind fun cs => if o < cs.length then some (σ.set r (.cells st (cs.set o v))) else none := store_sc sz28 hv
theorem ixi28 {r o n : Nat} {i : Int} {st : List Nat} {cap : Option Nat} {k : IntKind} (h0 : 0 ≤ i) (h1 : i < n) : indexAddrA cfg 28 (.sl r st o n 129 cap) (.i k i) = some (.ptr r st (o + i.toNat * 129)) := ixi sh28 sz116 h0 h1
theorem iai28 {n : Nat} {i : Int} {cs : List V} {cl : Bool} {k : IntKind} (h0 : 0 ≤ i) (h1 : i < n) : indexAddrA cfg 28 (.arr cs n cl) (.i k i) = some (.iptr (cs.drop (i.toNat * 129))) := iai sh28 sz116 h0 h1
theorem le28 {σ : List O} {r o n es : Nat} {st : List Nat} {cap : Option Nat} : lenA cfg 28 σ (.sl r st o n es cap) = some (.i .i64 n) := len_sl sh28
theorem lr28 {σ : List O} {n : Nat} {cs : List V} {cl : Bool} : lenA cfg 28 σ (.arr cs n cl) = some (.i .i64 n) := len_arr sh28
theorem ln28 {σ : List O} : lenA cfg 28 σ .nils = some (.i .i64 0) := len_nils sh28
theorem lda30 {σ : List O} {r o : Nat} {st : List Nat} : loadA cfg 30 σ (.ptr r st o) = (rowAt σ r st).bind fun cs => (take? cs o 4).map V.agg := load_agg ag30 sz30 (by decide)
theorem sta30 {σ : List O} {r o : Nat} {st : List Nat} {us : List V} (hl : us.length = 4) (ho : us.all V.one = true) : storeA cfg 30 σ (.ptr r st o) (.agg us) = (rowAt σ r st).bind fun cs => if o + 4 ≤ cs.length then some (σ.set r (.cells st (splice cs o us))) else none := store_agg sz30 hl ho
theorem bd30 {parts : List (Nat × V)} : buildA cfg 30 parts = (partsAt (fun i => ([(0, 1), (1, 1), (2, 1), (3, 1)] : List (Nat × Nat))[i]?) parts).bind fun l => (fillA [.nils, .nils, (.i .i64 0), (.b false)] l).map V.agg := build_struct sh30 pl30 ze30
theorem fi30x0 : cfg.field 30 0 = some (0, 27) := by kernel_rfl
theorem fi30x1 : cfg.field 30 1 = some (1, 28) := by kernel_rfl
theorem fi30x2 : cfg.field 30 2 = some (2, 3) := by kernel_rfl
theorem fi30x3 : cfg.field 30 3 = some (3, 4) := by kernel_rfl
theorem lda37 {σ : List O} {r o : Nat} {st : List Nat} : loadA cfg 37 σ (.ptr r st o) = (rowAt σ r st).bind fun cs => (take? cs o 4).map V.agg := load_agg ag37 sz37 (by decide)
theorem sta37 {σ : List O} {r o : Nat} {st : List Nat} {us : List V} (hl : us.length = 4) (ho : us.all V.one = true) : storeA cfg 37 σ (.ptr r st o) (.agg us) = (rowAt σ r st).bind fun cs => if o + 4 ≤ cs.length then some (σ.set r (.cells st (splice cs o us))) else none := store_agg sz37 hl ho
theorem bd37 {parts : List (Nat × V)} : buildA cfg 37 parts = (partsAt (fun i => ([(0, 2), (2, 1), (3, 1)] : List (Nat × Nat))[i]?) parts).bind fun l => (fillA [(.i .i64 0), (.i .i64 0), (.i .i64 0), .nils] l).map V.agg := build_struct sh37 pl37 ze37
theorem fi37x0 : cfg.field 37 0 = some (0, 34) := by kernel_rfl
theorem fi37x1 : cfg.field 37 1 = some (2, 3) := by kernel_rfl
theorem fi37x2 : cfg.field 37 2 = some (3, 35) := by kernel_rfl
theorem lda39 {σ : List O} {r o : Nat} {st : List Nat} : loadA cfg 39 σ (.ptr r st o) = (rowAt σ r st).bind fun cs => (take? cs o 10).map V.agg := load_agg ag39 sz39 (by decide)
theorem sta39 {σ : List O} {r o : Nat} {st : List Nat} {us : List V} (hl : us.length = 10) (ho : us.all V.one = true) : storeA cfg 39 σ (.ptr r st o) (.agg us) = (rowAt σ r st).bind fun cs => if o + 10 ≤ cs.length then some (σ.set r (.cells st (splice cs o us))) else none := store_agg sz39 hl ho
theorem bd39 {parts : List (Nat × V)} : buildA cfg 39 parts = (partsAt (fun i => ([(0, 4), (4, 2), (6, 4)] : List (Nat × Nat))[i]?) parts).bind fun l => (fillA [.nils, .nils, (.i .i64 0), (.b false), (.i .i64 0), .nils, (.i .i64 0), (.i .i64 0), (.i .i64 0), .nils] l).map V.agg := build_struct sh39 pl39 ze39
theorem fi39x0 : cfg.field 39 0 = some (0, 30) := by kernel_rfl
theorem fi39x1 : cfg.field 39 1 = some (4, 33) := by kernel_rfl
theorem fi39x2 : cfg.field 39 2 = some (6, 37) := by kernel_rfl
theorem eq42 {x y : Operand} {us vs : List V} (hu : us.map V.fk = ([(.i .i64), (.i .i64)] ++ List.replicate 32 (.i .u8) : List Fk).map some) (hv : vs.map V.fk = ([(.i .i64), (.i .i64)] ++ List.replicate 32 (.i .u8) : List Fk).map some) : binA cfg .eql 42 x y (.agg us) (.agg vs) = some (.b (eqB us vs)) := (binA_flat fk42 ag42 (by kernel_rfl) hu hv).1
theorem ne42 {x y : Operand} {us vs : List V} (hu : us.map V.fk = ([(.i .i64), (.i .i64)] ++ List.replicate 32 (.i .u8) : List Fk).map some) (hv : vs.map V.fk = ([(.i .i64), (.i .i64)] ++ List.replicate 32 (.i .u8) : List Fk).map some) : binA cfg .neq 42 x y (.agg us) (.agg vs) = some (.b (!eqB us vs)) := (binA_flat fk42 ag42 (by kernel_rfl) hu hv).2
theorem lda42 {σ : List O} {r o : Nat} {st : List Nat} : loadA cfg 42 σ (.ptr r st o) = (rowAt σ r st).bind fun cs => (take? cs o 34).map V.agg := load_agg ag42 sz42 (by decide)
theorem sta42 {σ : List O} {r o : Nat} {st : List Nat} {us : List V} (hl : us.length = 34) (ho : us.all V.one = true) : storeA cfg 42 σ (.ptr r st o) (.agg us) = (rowAt σ r st).bind fun cs => if o + 34 ≤ cs.length then some (σ.set r (.cells st (splice cs o us))) else none := store_agg sz42 hl ho
theorem bd42 {parts : List (Nat × V)} : buildA cfg 42 parts = (partsAt (fun i => ([(0, 1), (1, 1), (2, 32)] : List (Nat × Nat))[i]?) parts).bind fun l => (fillA [(.i .i64 0), (.i .i64 0), .i .u8 0, .i .u8 0, .i .u8 0, .i .u8 0, .i .u8 0, .i .u8 0, .i .u8 0, .i .u8 0, .i .u8 0, .i .u8 0, .i .u8 0, .i .u8 0, .i .u8 0, .i .u8 0, .i .u8 0, .i .u8 0, .i .u8 0, .i .u8 0, .i .u8 0, .i .u8 0, .i .u8 0, .i .u8 0, .i .u8 0, .i .u8 0, .i .u8 0, .i .u8 0, .i .u8 0, .i .u8 0, .i .u8 0, .i .u8 0, .i .u8 0, (.i .u8 0)] l).map V.agg := build_struct sh42 pl42 ze42
theorem fi42x0 : cfg.field 42 0 = some (0, 3) := by kernel_rfl
theorem fi42x1 : cfg.field 42 1 = some (1, 3) := by kernel_rfl
theorem fi42x2 : cfg.field 42 2 = some (2, 40) := by kernel_rfl
theorem eq44 {x y : Operand} {us vs : List V} (hu : us.map V.fk = ([(.i .i64), (.i .i64)] ++ List.replicate 32 (.i .u8) ++ [(.i .i64), (.i .i64)] : List Fk).map some) (hv : vs.map V.fk = ([(.i .i64), (.i .i64)] ++ List.replicate 32 (.i .u8) ++ [(.i .i64), (.i .i64)] : List Fk).map some) : binA cfg .eql 44 x y (.agg us) (.agg vs) = some (.b (eqB us vs)) := (binA_flat fk44 ag44 (by kernel_rfl) hu hv).1
theorem ne44 {x y : Operand} {us vs : List V} (hu : us.map V.fk = ([(.i .i64), (.i .i64)] ++ List.replicate 32 (.i .u8) ++ [(.i .i64), (.i .i64)] : List Fk).map some) (hv : vs.map V.fk = ([(.i .i64), (.i .i64)] ++ List.replicate 32 (.i .u8) ++ [(.i .i64), (.i .i64)] : List Fk).map some) : binA cfg .neq 44 x y (.agg us) (.agg vs) = some (.b (!eqB us vs)) := (binA_flat fk44 ag44 (by kernel_rfl) hu hv).2
theorem lda44 {σ : List O} {r o : Nat} {st : List Nat} : loadA cfg 44 σ (.ptr r st o) = (rowAt σ r st).bind fun cs => (take? cs o 36).map V.agg := load_agg ag44 sz44 (by decide)
theorem sta44 {σ : List O} {r o : Nat} {st : List Nat} {us : List V} (hl : us.length = 36) (ho : us.all V.one = true) : storeA cfg 44 σ (.ptr r st o) (.agg us) = (rowAt σ r st).bind fun cs => if o + 36 ≤ cs.length then some (σ.set r (.cells st (splice cs o us))) else none := store_agg sz44 hl ho
theorem bd44 {parts : List (Nat × V)} : buildA cfg 44 parts = (partsAt (fun i => ([(0, 34), (34, 1), (35, 1)] : List (Nat × Nat))[i]?) parts).bind fun l => (fillA [(.i .i64 0), (.i .i64 0), .i .u8 0, .i .u8 0, .i .u8 0, .i .u8 0, .i .u8 0, .i .u8 0, .i .u8 0, .i .u8 0, .i .u8 0, .i .u8 0, .i .u8 0, .i .u8 0, .i .u8 0, .i .u8 0, .i .u8 0, .i .u8 0, .i .u8 0, .i .u8 0, .i .u8 0, .i .u8 0, .i .u8 0, .i .u8 0, .i .u8 0, .i .u8 0, .i .u8 0, .i .u8 0, .i .u8 0, .i .u8 0, .i .u8 0, .i .u8 0, .i .u8 0, .i .u8 0, (.i .i64 0), (.i .i64 0)] l).map V.agg := build_struct sh44 pl44 ze44
theorem fi44x0 : cfg.field 44 0 = some (0, 42) := by kernel_rfl
theorem fi44x1 : cfg.field 44 1 = some (34, 3) := by kernel_rfl
theorem fi44x2 : cfg.field 44 2 = some (35, 3) := by kernel_rfl
theorem ld51 {σ : List O} {r o : Nat} {st : List Nat} : loadA cfg 51 σ (.ptr r st o) = (rowAt σ r st).bind fun cs => cs[o]? := load_sc ag51
theorem li51 {σ : List O} {cs : List V} : loadA cfg 51 σ (.iptr cs) = cs[0]? := load_ip ag51
theorem sto51 {σ : List O} {r o : Nat} {st : List Nat} {v : V} (hv : v.one = true) : storeA cfg 51 σ (.ptr r st o) v = (rowAt σ r st).bind fun cs => if o < cs.length then some (σ.set r (.cells st (cs.set o v))) else none := store_sc sz51 hv
theorem ld52 {σ : List O} {r o : Nat} {st : List Nat} : loadA cfg 52 σ (.ptr r st o) = (rowAt σ r st).bind fun cs => cs[o]? := load_sc ag52
theorem li52 {σ : List O} {cs : List V} : loadA cfg 52 σ (.iptr cs) = cs[0]? := load_ip ag52
theorem sto52 {σ : List O} {r o : Nat} {st : List Nat} {v : V} (hv : v.one = true) : storeA cfg 52 σ (.ptr r st o) v = (rowAt σ r st).bind fun cs => if o < cs.length then some (σ.set r (.cells st (cs.set o v))) else none := store_sc sz52 hv
theorem eq86 {x y : Operand} {us vs : List V} (hu : us.map V.fk = (List.replicate 5 (.i .i64) ++ List.replicate 32 (.i .u8) ++ [(.i .i64), (.i .i64)] : List Fk).map some) (hv : vs.map V.fk = (List.replicate 5 (.i .i64) ++ List.replicate 32 (.i .u8) ++ [(.i .i64), (.i .i64)] : List Fk).map some) : binA cfg .eql 86 x y (.agg us) (.agg vs) = some (.b (eqB us vs)) := (binA_flat fk86 ag86 (by kernel_rfl) hu hv).1
theorem ne86 {x y : Operand} {us vs : List V} (hu : us.map V.fk = (List.replicate 5 (.i .i64) ++ List.replicate 32 (.i .u8) ++ [(.i .i64), (.i .i64)] : List Fk).map some) (hv : vs.map V.fk = (List.replicate 5 (.i .i64) ++ List.replicate 32 (.i .u8) ++ [(.i .i64), (.i .i64)] : List Fk).map some) : binA cfg .neq 86 x y (.agg us) (.agg vs) = some (.b (!eqB us vs)) := (binA_flat fk86 ag86 (by kernel_rfl) hu hv).2
theorem lda86 {σ : List O} {r o : Nat} {st : List Nat} : loadA cfg 86 σ (.ptr r st o) = (rowAt σ r st).bind fun cs => (take? cs o 39).map V.agg := load_agg ag86 sz86 (by decide)
theorem sta86 {σ : List O} {r o : Nat} {st : List Nat} {us : List V} (hl : us.length = 39) (ho : us.all V.one = true) : storeA cfg 86 σ (.ptr r st o) (.agg us) = (rowAt σ r st).bind fun cs => if o + 39 ≤ cs.length then some (σ.set r (.cells st (splice cs o us))) else none := store_agg sz86 hl ho
theorem bd86 {parts : List (Nat × V)} : buildA cfg 86 parts = (partsAt (fun i => ([(0, 1), (1, 1), (2, 1), (3, 36)] : List (Nat × Nat))[i]?) parts).bind fun l => (fillA [(.i .i64 0), (.i .i64 0), (.i .i64 0), (.i .i64 0), (.i .i64 0), .i .u8 0, .i .u8 0, .i .u8 0, .i .u8 0, .i .u8 0, .i .u8 0, .i .u8 0, .i .u8 0, .i .u8 0, .i .u8 0, .i .u8 0, .i .u8 0, .i .u8 0, .i .u8 0, .i .u8 0, .i .u8 0, .i .u8 0, .i .u8 0, .i .u8 0, .i .u8 0, .i .u8 0, .i .u8 0, .i .u8 0, .i .u8 0, .i .u8 0, .i .u8 0, .i .u8 0, .i .u8 0, .i .u8 0, .i .u8 0, .i .u8 0, .i .u8 0, (.i .i64 0), (.i .i64 0)] l).map V.agg := build_struct sh86 pl86 ze86
theorem fi86x0 : cfg.field 86 0 = some (0, 3) := by kernel_rfl
theorem fi86x1 : cfg.field 86 1 = some (1, 3) := by kernel_rfl
theorem fi86x2 : cfg.field 86 2 = some (2, 3) := by kernel_rfl
theorem fi86x3 : cfg.field 86 3 = some (3, 44) := by kernel_rfl
theorem ipi132 {r o : Nat} {i : Int} {st : List Nat} {k : IntKind} (h0 : 0 ≤ i) (h1 : i < 64) : indexAddrA cfg 132 (.ptr r st o) (.i k i) = some (.ptr r st (o + i.toNat * 1)) := ipi (m := 64) sh132 sz5 h0 h1
theorem ixv132 {i : Int} {cs : List V} {k : IntKind} (h0 : 0 ≤ i) (h1 : i < 64) : indexA cfg 132 (.agg cs) (.i k i) = cs[i.toNat]? := ixv (m := 64) sh132 sz5 ag5 h0 h1
theorem eq132 {x y : Operand} {us vs : List V} (hu : us.map V.fk = (List.replicate 64 (.i .u8) : List Fk).map some) (hv : vs.map V.fk = (List.replicate 64 (.i .u8) : List Fk).map some) : binA cfg .eql 132 x y (.agg us) (.agg vs) = some (.b (eqB us vs)) := (binA_flat fk132 ag132 (by kernel_rfl) hu hv).1
theorem ne132 {x y : Operand} {us vs : List V} (hu : us.map V.fk = (List.replicate 64 (.i .u8) : List Fk).map some) (hv : vs.map V.fk = (List.replicate 64 (.i .u8) : List Fk).map some) : binA cfg .neq 132 x y (.agg us) (.agg vs) = some (.b (!eqB us vs)) := (binA_flat fk132 ag132 (by kernel_rfl) hu hv).2
theorem lda132 {σ : List O} {r o : Nat} {st : List Nat} : loadA cfg 132 σ (.ptr r st o) = (rowAt σ r st).bind fun cs => (take? cs o 64).map V.agg := load_agg ag132 sz132 (by decide)
theorem sta132 {σ : List O} {r o : Nat} {st : List Nat} {us : List V} (hl : us.length = 64) (ho : us.all V.one = true) : storeA cfg 132 σ (.ptr r st o) (.agg us) = (rowAt σ r st).bind fun cs => if o + 64 ≤ cs.length then some (σ.set r (.cells st (splice cs o us))) else none := store_agg sz132 hl ho
theorem bd132 {parts : List (Nat × V)} : buildA cfg 132 parts = (partsAt (fun i => some (i * 1, 1)) parts).bind fun l => (fillA [.i .u8 0, .i .u8 0, .i .u8 0, .i .u8 0, .i .u8 0, .i .u8 0, .i .u8 0, .i .u8 0, .i .u8 0, .i .u8 0, .i .u8 0, .i .u8 0, .i .u8 0, .i .u8 0, .i .u8 0, .i .u8 0, .i .u8 0, .i .u8 0, .i .u8 0, .i .u8 0, .i .u8 0, .i .u8 0, .i .u8 0, .i .u8 0, .i .u8 0, .i .u8 0, .i .u8 0, .i .u8 0, .i .u8 0, .i .u8 0, .i .u8 0, .i .u8 0, .i .u8 0, .i .u8 0, .i .u8 0, .i .u8 0, .i .u8 0, .i .u8 0, .i .u8 0, .i .u8 0, .i .u8 0, .i .u8 0, .i .u8 0, .i .u8 0, .i .u8 0, .i .u8 0, .i .u8 0, .i .u8 0, .i .u8 0, .i .u8 0, .i .u8 0, .i .u8 0, .i .u8 0, .i .u8 0, .i .u8 0, .i .u8 0, .i .u8 0, .i .u8 0, .i .u8 0, .i .u8 0, .i .u8 0, .i .u8 0, .i .u8 0, (.i .u8 0)] l).map V.agg := build_array sh132 sz5 ze132
theorem Y3 : type_of% (And.intro @sh3 (And.intro @sz3 (And.intro @by3 (And.intro @ag3 (And.intro @kn3 (And.intro @ze3 (And.intro @ld3 (And.intro @li3 (@sto3))))))))) := ⟨@sh3, @sz3, @by3, @ag3, @kn3, @ze3, @ld3, @li3, @sto3⟩
theorem Y28 : type_of% (And.intro @sh28 (And.intro @sz28 (And.intro @by28 (And.intro @ag28 (And.intro @kn28 (And.intro @el28 (And.intro @ze28 (And.intro @ld28 (And.intro @li28 (And.intro @sto28 (And.intro @ixi28 (And.intro @iai28 (And.intro @le28 (And.intro @lr28 (@ln28))))))))))))))) := ⟨@sh28, @sz28, @by28, @ag28, @kn28, @el28, @ze28, @ld28, @li28, @sto28, @ixi28, @iai28, @le28, @lr28, @ln28⟩
theorem Y30 : type_of% (And.intro @sh30 (And.intro @sz30 (And.intro @by30 (And.intro @ag30 (And.intro @kn30 (And.intro @ze30 (And.intro @pl30 (And.intro @lda30 (And.intro @sta30 (And.intro @bd30 (And.intro @fi30x0 (And.intro @fi30x1 (And.intro @fi30x2 (@fi30x3)))))))))))))) := ⟨@sh30, @sz30, @by30, @ag30, @kn30, @ze30, @pl30, @lda30, @sta30, @bd30, @fi30x0, @fi30x1, @fi30x2, @fi30x3⟩
theorem Y37 : type_of% (And.intro @sh37 (And.intro @sz37 (And.intro @by37 (And.intro @ag37 (And.intro @kn37 (And.intro @ze37 (And.intro @pl37 (And.intro @lda37 (And.intro @sta37 (And.intro @bd37 (And.intro @fi37x0 (And.intro @fi37x1 (@fi37x2))))))))))))) := ⟨@sh37, @sz37, @by37, @ag37, @kn37, @ze37, @pl37, @lda37, @sta37, @bd37, @fi37x0, @fi37x1, @fi37x2⟩
theorem Y39 : type_of% (And.intro @sh39 (And.intro @sz39 (And.intro @by39 (And.intro @ag39 (And.intro @kn39 (And.intro @ze39 (And.intro @pl39 (And.intro @lda39 (And.intro @sta39 (And.intro @bd39 (And.intro @fi39x0 (And.intro @fi39x1 (@fi39x2))))))))))))) := ⟨@sh39, @sz39, @by39, @ag39, @kn39, @ze39, @pl39, @lda39, @sta39, @bd39, @fi39x0, @fi39x1, @fi39x2⟩
theorem Y42 : type_of% (And.intro @sh42 (And.intro @sz42 (And.intro @by42 (And.intro @ag42 (And.intro @kn42 (And.intro @ze42 (And.intro @fk42 (And.intro @pl42 (And.intro @eq42 (And.intro @ne42 (And.intro @lda42 (And.intro @sta42 (And.intro @bd42 (And.intro @fi42x0 (And.intro @fi42x1 (@fi42x2)))))))))))))))) := ⟨@sh42, @sz42, @by42, @ag42, @kn42, @ze42, @fk42, @pl42, @eq42, @ne42, @lda42, @sta42, @bd42, @fi42x0, @fi42x1, @fi42x2⟩
theorem Y44 : type_of% (And.intro @sh44 (And.intro @sz44 (And.intro @by44 (And.intro @ag44 (And.intro @kn44 (And.intro @ze44 (And.intro @fk44 (And.intro @pl44 (And.intro @eq44 (And.intro @ne44 (And.intro @lda44 (And.intro @sta44 (And.intro @bd44 (And.intro @fi44x0 (And.intro @fi44x1 (@fi44x2)))))))))))))))) := ⟨@sh44, @sz44, @by44, @ag44, @kn44, @ze44, @fk44, @pl44, @eq44, @ne44, @lda44, @sta44, @bd44, @fi44x0, @fi44x1, @fi44x2⟩
theorem Y51 : type_of% (And.intro @sh51 (And.intro @sz51 (And.intro @by51 (And.intro @ag51 (And.intro @kn51 (And.intro @ze51 (And.intro @ld51 (And.intro @li51 (@sto51))))))))) := ⟨@sh51, @sz51, @by51, @ag51, @kn51, @ze51, @ld51, @li51, @sto51⟩
theorem Y52 : type_of% (And.intro @sh52 (And.intro @sz52 (And.intro @by52 (And.intro @ag52 (And.intro @kn52 (And.intro @ze52 (And.intro @ld52 (And.intro @li52 (@sto52))))))))) := ⟨@sh52, @sz52, @by52, @ag52, @kn52, @ze52, @ld52, @li52, @sto52⟩
theorem Y86 : type_of% (And.intro @sh86 (And.intro @sz86 (And.intro @by86 (And.intro @ag86 (And.intro @kn86 (And.intro @ze86 (And.intro @fk86 (And.intro @pl86 (And.intro @eq86 (And.intro @ne86 (And.intro @lda86 (And.intro @sta86 (And.intro @bd86 (And.intro @fi86x0 (And.intro @fi86x1 (And.intro @fi86x2 (@fi86x3))))))))))))))))) := ⟨@sh86, @sz86, @by86, @ag86, @kn86, @ze86, @fk86, @pl86, @eq86, @ne86, @lda86, @sta86, @bd86, @fi86x0, @fi86x1, @fi86x2, @fi86x3⟩
theorem Y132 : type_of% (And.intro @sh132 (And.intro @sz132 (And.intro @by132 (And.intro @ag132 (And.intro @kn132 (And.intro @ze132 (And.intro @fk132 (And.intro @ipi132 (And.intro @ixv132 (And.intro @eq132 (And.intro @ne132 (And.intro @lda132 (And.intro @sta132 (@bd132)))))))))))))) := ⟨@sh132, @sz132, @by132, @ag132, @kn132, @ze132, @fk132, @ipi132, @ixv132, @eq132, @ne132, @lda132, @sta132, @bd132⟩
end Go.Am.R2L

/- What the rows' lists of package variables give the machine; worlds for the witnesses. -/
namespace Go.Am.R2L
open Go Go.Proofs Go.Proofs.YtgagaobijjahhaaGreatDoor Go.RowKit
set_option maxRecDepth 100000
set_option linter.unusedSimpArgs false
set_option linter.unusedVariables false
theorem gBegins : Tryz.prog.globalNamed "lazaret/sha.begins" = some 1 := by kernel_rfl
theorem gCubes : Tryz.prog.globalNamed "lazaret/sha.cubes" = some 2 := by kernel_rfl
theorem tBegins : (Tryz.prog.globals[1]?).map (·.type) = some 231 := by kernel_rfl
theorem tCubes : (Tryz.prog.globals[2]?).map (·.type) = some 254 := by kernel_rfl
theorem laidMet_tail {P : Program} {x : String × DataW Unit} {rest : List (String × DataW Unit)} {W : World} (h : laidMet P (x :: rest) W) : laidMet P rest W := by
  obtain ⟨ps, ⟨g', t', cs, fuel, p, q, h1, h2, h3, h4, h5, h6⟩, hn, hc⟩ := h
  subst h6
  exact ⟨q, h5, (List.nodup_append.1 hn).2.1, fun b off hm => hc b off (by simp [hm])⟩
def begins : List Int := [1779033703, 3144134277, 1013904242, 2773480762, 1359893119, 2600822924, 528734635, 1541459225]
def cubes : List Int := [1116352408, 1899447441, 3049323471, 3921009573, 961987163, 1508970993, 2453635748, 2870763221, 3624381080, 310598401, 607225278, 1426881987, 1925078388, 2162078206, 2614888103, 3248222580, 3835390401, 4022224774, 264347078, 604807628, 770255983, 1249150122, 1555081692, 1996064986, 2554220882, 2821834349, 2952996808, 3210313671, 3336571891, 3584528711, 113926993, 338241895, 666307205, 773529912, 1294757372, 1396182291, 1695183700, 1986661051, 2177026350, 2456956037, 2730485921, 2820302411, 3259730800, 3345764771, 3516065817, 3600352804, 4094571909, 275423344, 430227734, 506948616, 659060556, 883997877, 958139571, 1322822218, 1537002063, 1747873779, 1955562222, 2024104815, 2227730452, 2361852424, 2428436474, 2756734187, 3204031479, 3329325298]
abbrev laidBoth : List (String × DataW Unit) := [("lazaret/sha.begins", Rows.laid_lazaret_sha_begins), ("lazaret/sha.cubes", Rows.laid_lazaret_sha_cubes)]
theorem tabBegins {W : World} (h : laidMet Tryz.prog laidBoth W) : Lib.TabIs Tryz.prog W "lazaret/sha.begins" .u32 begins :=
  Lib.tabIs_of_head (rest := [("lazaret/sha.cubes", Rows.laid_lazaret_sha_cubes)]) gBegins tBegins Tryz.underlying231 Tryz.underlying230 (by kernel_rfl) (by kernel_rfl) h
theorem tabCubes {W : World} (h : laidMet Tryz.prog laidBoth W) : Lib.TabIs Tryz.prog W "lazaret/sha.cubes" .u32 cubes :=
  Lib.tabIs_of_head (rest := []) gCubes tCubes Tryz.underlying254 Tryz.underlying230 (by kernel_rfl) (by kernel_rfl) (laidMet_tail h)
theorem cell_lt {W : World} {g i : Nat} {v : Value} (h : W.cell? ⟨g, i, none⟩ = some v) : g < W.heap.size := by
  by_cases hg : g < W.heap.size
  · exact hg
  · have : W.heap[g]? = none := Array.getElem?_eq_none (by omega)
    simp [World.cell?, this] at h
theorem rel_tab {W : World} {g : Nat} {k : IntKind} {zs : List Int} (h0 : 0 < zs.length) (h : ∀ i, i < zs.length → W.cell? ⟨g, i, none⟩ = some (.int k (zs.getD i 0))) : Rel (MW W) W (.iptr (ints k zs)) (.pointer (some ⟨g, 0, none⟩)) := by
  refine .iptr (ints k zs) ⟨g, 0, none⟩ (zs.map (Value.int k)) (fun _ => cell_lt (h 0 h0)) (fun x hx => ?_) (RelL.map_ev zs (V.i k) (Value.int k) fun x _ => .i k x) (fun j y hy => ?_)
  · obtain ⟨z, _, rfl⟩ := List.mem_map.1 hx; rfl
  · rw [List.getElem?_map, Option.map_eq_some_iff] at hy
    obtain ⟨z, hz, rfl⟩ := hy
    have hj : j < zs.length := (List.getElem?_eq_some_iff.1 hz).1
    have := h j hj
    rw [List.getD_eq_getElem?_getD, hz] at this
    have ea : (⟨g, 0, none⟩ : Addr).add j = ⟨g, j, none⟩ := by simp [Addr.add]; exact fun e => e.symm
    rw [ea]; exact this
theorem gr {W : World} (h : laidMet Tryz.prog laidBoth W) : GR cfg (MW W) W := by
  refine ⟨fun g cs hg => ?_⟩
  have hg : R2.globT g = some cs := hg
  unfold R2.globT at hg
  split at hg
  · rename_i e; subst e; cases hg
    exact rel_tab (zs := begins) (by decide) fun i hi => (tabBegins h).cell gBegins i hi
  split at hg
  · rename_i e; subst e; cases hg
    exact rel_tab (zs := cubes) (by decide) fun i hi => (tabCubes h).cell gCubes i hi
  · cases hg
def setCells (cs : Array Value) : Obj → Obj
  | .cells _ t frozen => .cells cs t frozen
  | o => o
noncomputable def laidWorld (os : Os) : World :=
  let w0 := World.holding Tryz.prog os ⟨#[], #[], []⟩
  { w0 with heap := (w0.heap.modify 1 (setCells (begins.map (Value.int .u32)).toArray)).modify 2 (setCells (cubes.map (Value.int .u32)).toArray) }
end Go.Am.R2L
