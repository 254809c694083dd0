/- The machine over this seat's program: tables, what is asked of it, facts of types. -/
import Derived.Test.YtijdfdkngbpodaaChecked
import Derived.Test.YtijdfdkngbpodaaAmView
namespace Go.Am.R1
open Go.Proofs
set_option linter.unusedVariables false
set_option linter.unusedSimpArgs false
def clsT : List (Nat × Nat × List (Nat × Nat)) := [(7, 6, [(2, 3)]), (17, 4, [(1, 2), (7, 8)]), (27, 3, [(31, 2), (31, 3), (31, 6), (31, 7), (31, 10), (31, 11), (31, 14), (31, 15), (31, 18), (31, 19), (31, 22), (31, 23), (31, 26), (31, 27)]), (29, 1, [(2, 4), (2, 7), (5, 7)]), (39, 5, [(14, 20), (15, 20)]), (58, 7, [(4, 8)]), (59, 6, [(6, 9), (6, 12)]), (60, 6, [(11, 6), (11, 8)]), (61, 6, [(9, 3), (9, 5), (9, 7), (11, 5), (11, 7), (13, 7)]), (61, 9, [(7, 3), (7, 5), (9, 5)]), (61, 13, [(5, 3)]), (61, 16, [(9, 3), (9, 5), (9, 7), (11, 5), (11, 7), (13, 7)]), (61, 19, [(7, 3), (7, 5), (9, 5)]), (61, 22, [(5, 3)]), (61, 25, [(5, 3)]), (65, 2, [(5, 8), (6, 8)]), (65, 3, [(5, 8), (6, 8)]), (65, 4, [(11, 14), (12, 14)]), (78, 2, [(24, 22)]), (115, 11, [(8, 5), (8, 7)]), (175, 0, [(8, 12), (8, 13)])]
def clsOf (f r : Nat) : List (Nat × Nat) := match clsT.find? (fun x => x.1 == f && x.2.1 == r) with | some x => x.2.2 | none => []
noncomputable def cfg : Cfg := { P := Try.prog, bar := fun f => [42].contains f, cls := clsOf, keep := fun f => f == 19 }
set_option maxRecDepth 100000
theorem fns : fnsOk cfg = true := by decide +kernel
theorem prims : PrimOk cfg := fun _ _ _ h => by cases h
theorem mixed : cfg.P.follows .mixedOrders = true := by kernel_rfl
theorem sh3 : cfg.shape 3 = .int .i64 := by kernel_rfl
theorem sz3 : cfg.size 3 = some 1 := by kernel_rfl
theorem by3 : cfg.bytes 3 = 8 := by kernel_rfl
theorem ag3 : cfg.isAgg 3 = some false := by kernel_rfl
theorem kn3 : known cfg 3 = true := by kernel_rfl
theorem ze3 : cfg.zero 3 = some (.i .i64 0) := by kernel_rfl
theorem ld3 {σ : List O} {r o : Nat} {st : List Nat} : loadA cfg 3 σ (.ptr r st o) = (rowAt σ r st).bind fun cs => cs[o]? := load_sc ag3
theorem li3 {σ : List O} {cs : List V} : loadA cfg 3 σ (.iptr cs) = cs[0]? := load_ip ag3
theorem sto3 {σ : List O} {r o : Nat} {st : List Nat} {v : V} (hv : v.one = true) : storeA cfg 3 σ (.ptr r st o) v = (rowAt σ r st).bind fun cs => if o < cs.length then some (σ.set r (.cells st (cs.set o v))) else none := store_sc sz3 hv
theorem sh4 : cfg.shape 4 = .other := by kernel_rfl
theorem sz4 : cfg.size 4 = some 1 := by kernel_rfl
theorem by4 : cfg.bytes 4 = 1 := by kernel_rfl
theorem ag4 : cfg.isAgg 4 = some false := by kernel_rfl
theorem kn4 : known cfg 4 = true := by kernel_rfl
theorem ze4 : cfg.zero 4 = some (.b false) := by kernel_rfl
theorem ld4 {σ : List O} {r o : Nat} {st : List Nat} : loadA cfg 4 σ (.ptr r st o) = (rowAt σ r st).bind fun cs => cs[o]? := load_sc ag4
theorem li4 {σ : List O} {cs : List V} : loadA cfg 4 σ (.iptr cs) = cs[0]? := load_ip ag4
theorem sto4 {σ : List O} {r o : Nat} {st : List Nat} {v : V} (hv : v.one = true) : storeA cfg 4 σ (.ptr r st o) v = (rowAt σ r st).bind fun cs => if o < cs.length then some (σ.set r (.cells st (cs.set o v))) else none := store_sc sz4 hv
theorem sh5 : cfg.shape 5 = .int .u8 := by kernel_rfl
theorem sz5 : cfg.size 5 = some 1 := by kernel_rfl
theorem by5 : cfg.bytes 5 = 1 := by kernel_rfl
theorem ag5 : cfg.isAgg 5 = some false := by kernel_rfl
theorem kn5 : known cfg 5 = true := by kernel_rfl
theorem ze5 : cfg.zero 5 = some (.i .u8 0) := by kernel_rfl
theorem ld5 {σ : List O} {r o : Nat} {st : List Nat} : loadA cfg 5 σ (.ptr r st o) = (rowAt σ r st).bind fun cs => cs[o]? := load_sc ag5
theorem li5 {σ : List O} {cs : List V} : loadA cfg 5 σ (.iptr cs) = cs[0]? := load_ip ag5
theorem sto5 {σ : List O} {r o : Nat} {st : List Nat} {v : V} (hv : v.one = true) : storeA cfg 5 σ (.ptr r st o) v = (rowAt σ r st).bind fun cs => if o < cs.length then some (σ.set r (.cells st (cs.set o v))) else none := store_sc sz5 hv
theorem sh9 : cfg.shape 9 = .string := by kernel_rfl
theorem sz9 : cfg.size 9 = some 1 := by kernel_rfl
theorem by9 : cfg.bytes 9 = 16 := by kernel_rfl
theorem ag9 : cfg.isAgg 9 = some false := by kernel_rfl
theorem kn9 : known cfg 9 = true := by kernel_rfl
theorem ze9 : cfg.zero 9 = some (.s .empty) := by kernel_rfl
theorem ld9 {σ : List O} {r o : Nat} {st : List Nat} : loadA cfg 9 σ (.ptr r st o) = (rowAt σ r st).bind fun cs => cs[o]? := load_sc ag9
theorem li9 {σ : List O} {cs : List V} : loadA cfg 9 σ (.iptr cs) = cs[0]? := load_ip ag9
theorem sto9 {σ : List O} {r o : Nat} {st : List Nat} {v : V} (hv : v.one = true) : storeA cfg 9 σ (.ptr r st o) v = (rowAt σ r st).bind fun cs => if o < cs.length then some (σ.set r (.cells st (cs.set o v))) else none := store_sc sz9 hv
theorem sh22 : cfg.shape 22 = .slice 5 := by kernel_rfl
theorem sz22 : cfg.size 22 = some 1 := by kernel_rfl
theorem by22 : cfg.bytes 22 = 24 := by kernel_rfl
theorem ag22 : cfg.isAgg 22 = some false := by kernel_rfl
theorem kn22 : known cfg 22 = true := by kernel_rfl
theorem el22 : cfg.elem 22 = some (5, 1, (.i .u8 0)) := by kernel_rfl
theorem ze22 : cfg.zero 22 = some .nils := by kernel_rfl
theorem ld22 {σ : List O} {r o : Nat} {st : List Nat} : loadA cfg 22 σ (.ptr r st o) = (rowAt σ r st).bind fun cs => cs[o]? := load_sc ag22
theorem li22 {σ : List O} {cs : List V} : loadA cfg 22 σ (.iptr cs) = cs[0]? := load_ip ag22
theorem sto22 {σ : List O} {r o : Nat} {st : List Nat} {v : V} (hv : v.one = true) : storeA cfg 22 σ (.ptr r st o) v = (rowAt σ r st).bind fun cs => if o < cs.length then some (σ.set r (.cells st (cs.set o v))) else none := store_sc sz22 hv
theorem ix22 {r o n j : Nat} {st : List Nat} {cap : Option Nat} {k : IntKind} (h : j < n) : indexAddrA cfg 22 (.sl r st o n 1 cap) (.i k j) = some (.ptr r st (o + j)) := idx_sl sh22 sz5 h
theorem ia22 {n j : Nat} {cs : List V} {cl : Bool} {k : IntKind} (h : j < n) : indexAddrA cfg 22 (.arr cs n cl) (.i k j) = some (.iptr (cs.drop j)) := idx_arr sh22 sz5 h
theorem mk22 {σ : List O} {st : List Nat} {n : Nat} (h : n ≤ 1000000000000) : makeSliceA cfg 22 (.i .i64 n) (.i .i64 n) σ st = some (.sl σ.length st 0 n 1 (some n), σ ++ [.cells st (List.replicate n (.i .u8 0))]) := make_sc el22 by5 (by omega) (by omega) rfl
theorem le22 {σ : List O} {r o n es : Nat} {st : List Nat} {cap : Option Nat} : lenA cfg 22 σ (.sl r st o n es cap) = some (.i .i64 n) := len_sl sh22
theorem lr22 {σ : List O} {n : Nat} {cs : List V} {cl : Bool} : lenA cfg 22 σ (.arr cs n cl) = some (.i .i64 n) := len_arr sh22
theorem ln22 {σ : List O} : lenA cfg 22 σ .nils = some (.i .i64 0) := len_nils sh22
theorem sh25 : cfg.shape 25 = .int .i64 := by kernel_rfl
theorem sz25 : cfg.size 25 = some 1 := by kernel_rfl
theorem by25 : cfg.bytes 25 = 8 := by kernel_rfl
theorem ag25 : cfg.isAgg 25 = some false := by kernel_rfl
theorem kn25 : known cfg 25 = true := by kernel_rfl
theorem ze25 : cfg.zero 25 = some (.i .i64 0) := by kernel_rfl
theorem ld25 {σ : List O} {r o : Nat} {st : List Nat} : loadA cfg 25 σ (.ptr r st o) = (rowAt σ r st).bind fun cs => cs[o]? := load_sc ag25
theorem li25 {σ : List O} {cs : List V} : loadA cfg 25 σ (.iptr cs) = cs[0]? := load_ip ag25
theorem sto25 {σ : List O} {r o : Nat} {st : List Nat} {v : V} (hv : v.one = true) : storeA cfg 25 σ (.ptr r st o) v = (rowAt σ r st).bind fun cs => if o < cs.length then some (σ.set r (.cells st (cs.set o v))) else none := store_sc sz25 hv
theorem sh31 : cfg.shape 31 = .int .u16 := by kernel_rfl
theorem sz31 : cfg.size 31 = some 1 := by kernel_rfl
theorem by31 : cfg.bytes 31 = 2 := by kernel_rfl
theorem ag31 : cfg.isAgg 31 = some false := by kernel_rfl
theorem kn31 : known cfg 31 = true := by kernel_rfl
theorem ze31 : cfg.zero 31 = some (.i .u16 0) := by kernel_rfl
theorem ld31 {σ : List O} {r o : Nat} {st : List Nat} : loadA cfg 31 σ (.ptr r st o) = (rowAt σ r st).bind fun cs => cs[o]? := load_sc ag31
theorem li31 {σ : List O} {cs : List V} : loadA cfg 31 σ (.iptr cs) = cs[0]? := load_ip ag31
theorem sto31 {σ : List O} {r o : Nat} {st : List Nat} {v : V} (hv : v.one = true) : storeA cfg 31 σ (.ptr r st o) v = (rowAt σ r st).bind fun cs => if o < cs.length then some (σ.set r (.cells st (cs.set o v))) else none := store_sc sz31 hv
theorem sh89 : cfg.shape 89 = .slice 4 := by kernel_rfl
theorem sz89 : cfg.size 89 = some 1 := by kernel_rfl
theorem by89 : cfg.bytes 89 = 24 := by kernel_rfl
theorem ag89 : cfg.isAgg 89 = some false := by kernel_rfl
theorem kn89 : known cfg 89 = true := by kernel_rfl
theorem el89 : cfg.elem 89 = some (4, 1, (.b false)) := by kernel_rfl
theorem ze89 : cfg.zero 89 = some .nils := by kernel_rfl
theorem ld89 {σ : List O} {r o : Nat} {st : List Nat} : loadA cfg 89 σ (.ptr r st o) = (rowAt σ r st).bind fun cs => cs[o]? := load_sc ag89
theorem li89 {σ : List O} {cs : List V} : loadA cfg 89 σ (.iptr cs) = cs[0]? := load_ip ag89
theorem sto89 {σ : List O} {r o : Nat} {st : List Nat} {v : V} (hv : v.one = true) : storeA cfg 89 σ (.ptr r st o) v = (rowAt σ r st).bind fun cs => if o < cs.length then some (σ.set r (.cells st (cs.set o v))) else none := store_sc sz89 hv
theorem ix89 {r o n j : Nat} {st : List Nat} {cap : Option Nat} {k : IntKind} (h : j < n) : indexAddrA cfg 89 (.sl r st o n 1 cap) (.i k j) = some (.ptr r st (o + j)) := idx_sl sh89 sz4 h
theorem ia89 {n j : Nat} {cs : List V} {cl : Bool} {k : IntKind} (h : j < n) : indexAddrA cfg 89 (.arr cs n cl) (.i k j) = some (.iptr (cs.drop j)) := idx_arr sh89 sz4 h
theorem mk89 {σ : List O} {st : List Nat} {n : Nat} (h : n ≤ 1000000000000) : makeSliceA cfg 89 (.i .i64 n) (.i .i64 n) σ st = some (.sl σ.length st 0 n 1 (some n), σ ++ [.cells st (List.replicate n (.b false))]) := make_sc el89 by4 (by omega) (by omega) rfl
theorem le89 {σ : List O} {r o n es : Nat} {st : List Nat} {cap : Option Nat} : lenA cfg 89 σ (.sl r st o n es cap) = some (.i .i64 n) := len_sl sh89
theorem lr89 {σ : List O} {n : Nat} {cs : List V} {cl : Bool} : lenA cfg 89 σ (.arr cs n cl) = some (.i .i64 n) := len_arr sh89
theorem ln89 {σ : List O} : lenA cfg 89 σ .nils = some (.i .i64 0) := len_nils sh89
theorem sh138 : cfg.shape 138 = .slice 153 := by kernel_rfl
theorem sz138 : cfg.size 138 = some 1 := by kernel_rfl
theorem by138 : cfg.bytes 138 = 24 := by kernel_rfl
theorem ag138 : cfg.isAgg 138 = some false := by kernel_rfl
theorem kn138 : known cfg 138 = true := by kernel_rfl
theorem el138 : cfg.elem 138 = some (153, 128, (.agg [(.i .u8 0), (.i .u8 0), (.i .u8 0), (.i .u8 0), (.i .u8 0), (.i .u8 0), (.i .u8 0), (.i .u8 0), (.i .u8 0), (.i .u8 0), (.i .u8 0), (.i .u8 0), (.i .u8 0), (.i .u8 0), (.i .u8 0), (.i .u8 0), (.i .u8 0), (.i .u8 0), (.i .u8 0), (.i .u8 0), (.i .u8 0), (.i .u8 0), (.i .u8 0), (.i .u8 0), (.i .u8 0), (.i .u8 0), (.i .u8 0), (.i .u8 0), (.i .u8 0), (.i .u8 0), (.i .u8 0), (.i .u8 0), (.i .u8 0), (.i .u8 0), (.i .u8 0), (.i .u8 0), (.i .u8 0), (.i .u8 0), (.i .u8 0), (.i .u8 0), (.i .u8 0), (.i .u8 0), (.i .u8 0), (.i .u8 0), (.i .u8 0), (.i .u8 0), (.i .u8 0), (.i .u8 0), (.i .u8 0), (.i .u8 0), (.i .u8 0), (.i .u8 0), (.i .u8 0), (.i .u8 0), (.i .u8 0), (.i .u8 0), (.i .u8 0), (.i .u8 0), (.i .u8 0), (.i .u8 0), (.i .u8 0), (.i .u8 0), (.i .u8 0), (.i .u8 0), (.i .u8 0), (.i .u8 0), (.i .u8 0), (.i .u8 0), (.i .u8 0), (.i .u8 0), (.i .u8 0), (.i .u8 0), (.i .u8 0), (.i .u8 0), (.i .u8 0), (.i .u8 0), (.i .u8 0), (.i .u8 0), (.i .u8 0), (.i .u8 0), (.i .u8 0), (.i .u8 0), (.i .u8 0), (.i .u8 0), (.i .u8 0), (.i .u8 0), (.i .u8 0), (.i .u8 0), (.i .u8 0), (.i .u8 0), (.i .u8 0), (.i .u8 0), (.i .u8 0), (.i .u8 0), (.i .u8 0), (.i .u8 0), (.i .u8 0), (.i .u8 0), (.i .u8 0), (.i .u8 0), (.i .u8 0), (.i .u8 0), (.i .u8 0), (.i .u8 0), (.i .u8 0), (.i .u8 0), (.i .u8 0), (.i .u8 0), (.i .u8 0), (.i .u8 0), (.i .u8 0), (.i .u8 0), (.i .u8 0), (.i .u8 0), (.i .u8 0), (.i .u8 0), (.i .u8 0), (.i .u8 0), (.i .u8 0), (.i .u8 0), (.i .u8 0), (.i .u8 0), (.i .u8 0), (.i .u8 0), (.i .u8 0), (.i .u8 0), (.i .u8 0), (.i .u8 0)])) := by kernel_rfl
theorem ze138 : cfg.zero 138 = some .nils := by kernel_rfl
theorem ld138 {σ : List O} {r o : Nat} {st : List Nat} : loadA cfg 138 σ (.ptr r st o) = (rowAt σ r st).bind fun cs => cs[o]? := load_sc ag138
theorem li138 {σ : List O} {cs : List V} : loadA cfg 138 σ (.iptr cs) = cs[0]? := load_ip ag138
theorem sto138 {σ : List O} {r o : Nat} {st : List Nat} {v : V} (hv : v.one = true) : storeA cfg 138 σ (.ptr r st o) v = (rowAt σ r st).bind fun cs => if o < cs.length then some (σ.set r (.cells st (cs.set o v))) else none := store_sc sz138 hv
theorem le138 {σ : List O} {r o n es : Nat} {st : List Nat} {cap : Option Nat} : lenA cfg 138 σ (.sl r st o n es cap) = some (.i .i64 n) := len_sl sh138
theorem lr138 {σ : List O} {n : Nat} {cs : List V} {cl : Bool} : lenA cfg 138 σ (.arr cs n cl) = some (.i .i64 n) := len_arr sh138
theorem ln138 {σ : List O} : lenA cfg 138 σ .nils = some (.i .i64 0) := len_nils sh138
theorem sh153 : cfg.shape 153 = .array 128 5 := by kernel_rfl
theorem sz153 : cfg.size 153 = some 128 := by kernel_rfl
theorem by153 : cfg.bytes 153 = 128 := by kernel_rfl
theorem ag153 : cfg.isAgg 153 = some true := by kernel_rfl
theorem kn153 : known cfg 153 = true := by kernel_rfl
theorem ze153 : cfg.zero 153 = some (.agg [(.i .u8 0), (.i .u8 0), (.i .u8 0), (.i .u8 0), (.i .u8 0), (.i .u8 0), (.i .u8 0), (.i .u8 0), (.i .u8 0), (.i .u8 0), (.i .u8 0), (.i .u8 0), (.i .u8 0), (.i .u8 0), (.i .u8 0), (.i .u8 0), (.i .u8 0), (.i .u8 0), (.i .u8 0), (.i .u8 0), (.i .u8 0), (.i .u8 0), (.i .u8 0), (.i .u8 0), (.i .u8 0), (.i .u8 0), (.i .u8 0), (.i .u8 0), (.i .u8 0), (.i .u8 0), (.i .u8 0), (.i .u8 0), (.i .u8 0), (.i .u8 0), (.i .u8 0), (.i .u8 0), (.i .u8 0), (.i .u8 0), (.i .u8 0), (.i .u8 0), (.i .u8 0), (.i .u8 0), (.i .u8 0), (.i .u8 0), (.i .u8 0), (.i .u8 0), (.i .u8 0), (.i .u8 0), (.i .u8 0), (.i .u8 0), (.i .u8 0), (.i .u8 0), (.i .u8 0), (.i .u8 0), (.i .u8 0), (.i .u8 0), (.i .u8 0), (.i .u8 0), (.i .u8 0), (.i .u8 0), (.i .u8 0), (.i .u8 0), (.i .u8 0), (.i .u8 0), (.i .u8 0), (.i .u8 0), (.i .u8 0), (.i .u8 0), (.i .u8 0), (.i .u8 0), (.i .u8 0), (.i .u8 0), (.i .u8 0), (.i .u8 0), (.i .u8 0), (.i .u8 0), (.i .u8 0), (.i .u8 0), (.i .u8 0), (.i .u8 0), (.i .u8 0), (.i .u8 0), (.i .u8 0), (.i .u8 0), (.i .u8 0), (.i .u8 0), (.i .u8 0), (.i .u8 0), (.i .u8 0), (.i .u8 0), (.i .u8 0), (.i .u8 0), (.i .u8 0), (.i .u8 0), (.i .u8 0), (.i .u8 0), (.i .u8 0), (.i .u8 0), (.i .u8 0), (.i .u8 0), (.i .u8 0), (.i .u8 0), (.i .u8 0), (.i .u8 0), (.i .u8 0), (.i .u8 0), (.i .u8 0), (.i .u8 0), (.i .u8 0), (.i .u8 0), (.i .u8 0), (.i .u8 0), (.i .u8 0), (.i .u8 0), (.i .u8 0), (.i .u8 0), (.i .u8 0), (.i .u8 0), (.i .u8 0), (.i .u8 0), (.i .u8 0), (.i .u8 0), (.i .u8 0), (.i .u8 0), (.i .u8 0), (.i .u8 0), (.i .u8 0), (.i .u8 0)]) := by kernel_rfl
theorem un4 : cfg.P.underlying 4 = some .bool := Try.underlying4
end Go.Am.R1
