/- Parts of one machine and of the walks over it, joined: K0 K0d K0y K45 K0g K46 K47 K48 K49 K50 K51 K52 K60 K61. -/
import Derived.Test.YtgagaobijjahhaaGreatDoorChecked
import Derived.Test.YtgagaobijjahhaaGreatDoorAmView
import Derived.Test.YtgagaobijjahhaaGreatDoorAmIdx
import Derived.Test.YtgagaobijjahhaaGreatDoorJT
import Derived.Test.YtgagaobijjahhaaGreatDoorAmPrim
import Derived.Test.YtgagaobijjahhaaGreatDoorAmFlat
import Derived.Test.YtgagaobijjahhaaGreatDoorJS
import Derived.Test.YtgagaobijjahhaaGreatDoorAmZ
import Derived.Test.YtgagaobijjahhaaGreatDoorJP
/- The machine over this seat's program: tables, what is asked of it. -/
namespace Go.Am.R2
open Go.Proofs
set_option linter.unusedVariables false
set_option linter.unusedSimpArgs false
def clsT : List (Nat × Nat × List (Nat × Nat)) := [(4, 5, [(1, 2), (5, 2)]), (11, 1, [(2, 4), (2, 7), (5, 7)]), (20, 4, [(8, 1)]), (28, 1, [(1, 0)]), (29, 3, [(4, 1)]), (33, 3, [(9, 6)]), (33, 6, [(6, 3)]), (43, 3, [(3, 1)]), (78, 3, [(9, 6)]), (78, 6, [(6, 3)]), (92, 6, [(2, 6)]), (115, 1, [(20, 15)]), (120, 4, [(4, 2)]), (123, 1, [(9, 6)]), (123, 4, [(6, 3)]), (124, 1, [(9, 0), (9, 4), (10, 0), (10, 4)]), (134, 8, [(9, 4)]), (144, 1, [(1, 0)]), (146, 2, [(10, 1), (10, 5), (11, 1), (11, 5), (10, 12), (11, 12)]), (148, 1, [(4, 5)]), (149, 4, [(0, 2)]), (153, 1, [(10, 1), (10, 5), (11, 1), (11, 5), (10, 12), (11, 12), (10, 13), (11, 13), (10, 17), (11, 17)]), (170, 11, [(8, 5), (8, 7)]), (185, 8, [(5, 0)]), (187, 2, [(0, 2)]), (191, 2, [(24, 22)]), (193, 4, [(5, 0)]), (198, 5, [(2, 14)]), (206, 3, [(1, 3)]), (226, 2, [(6, 0)]), (233, 3, [(5, 6)]), (233, 9, [(9, 3)]), (246, 5, [(8, 1), (8, 10)])]
def clsOf (f r : Nat) : List (Nat × Nat) := match clsT.find? (fun x => x.1 == f && x.2.1 == r) with | some x => x.2.2 | none => []
def preT : List (Nat × Nat × List Nat) := [(4, 5, [5, 5]), (33, 3, [9, 9]), (42, 1, [10]), (45, 1, [11]), (48, 1, [11]), (50, 1, [11]), (78, 3, [9, 9]), (123, 1, [9, 9]), (134, 8, []), (154, 7, [18]), (184, 3, [13]), (190, 9, [14]), (233, 9, [12]), (246, 1, [11])]
def preOf (f r : Nat) : Option (List Nat) := (preT.find? (fun x => x.1 == f && x.2.1 == r)).map (·.2.2)
def beginsV : List V := ints .u32 [1779033703, 3144134277, 1013904242, 2773480762, 1359893119, 2600822924, 528734635, 1541459225]
def cubesV : List V := ints .u32 [1116352408, 1899447441, 3049323471, 3921009573, 961987163, 1508970993, 2453635748, 2870763221, 3624381080, 310598401, 607225278, 1426881987, 1925078388, 2162078206, 2614888103, 3248222580, 3835390401, 4022224774, 264347078, 604807628, 770255983, 1249150122, 1555081692, 1996064986, 2554220882, 2821834349, 2952996808, 3210313671, 3336571891, 3584528711, 113926993, 338241895, 666307205, 773529912, 1294757372, 1396182291, 1695183700, 1986661051, 2177026350, 2456956037, 2730485921, 2820302411, 3259730800, 3345764771, 3516065817, 3600352804, 4094571909, 275423344, 430227734, 506948616, 659060556, 883997877, 958139571, 1322822218, 1537002063, 1747873779, 1955562222, 2024104815, 2227730452, 2361852424, 2428436474, 2756734187, 3204031479, 3329325298]
def globT (g : Nat) : Option (List V) := if g = 1 then some beginsV else if g = 2 then some cubesV else none
def primT (f : Nat) : Option (List V → List O → Option V) := if f = 248 then some pIdxS else if f = 167 then some pIndexByte else none
def barT (f : Nat) : Bool := f == 5 || f == 134 || f == 83 || f == 74 || f == 38
def hookT (g id : Nat) : Option (List Nat → St → Option St) := if g = 92 ∧ id = 7 then some (fun _ _ => none) else none
noncomputable def cfg : Cfg := { P := Tryz.prog, bar := barT, cls := clsOf, pre := preOf, prim := primT, glob := globT, keep := fun f _ => [71, 22].contains f, hook := hookT }
set_option maxRecDepth 100000
theorem fns : fnsOk cfg = true := by decide +kernel
theorem kpF {f : Nat} {p : List Nat} (h : [71, 22].contains f = false) : cfg.keep f p = false := h
theorem kpT {f : Nat} {p : List Nat} (h : [71, 22].contains f = true) : cfg.keep f p = true := h
theorem mixed : cfg.P.follows .mixedOrders = true := by kernel_rfl
theorem primAt (C : Cfg) (hP : C.P = Tryz.prog) : ∀ f g, primT f = some g → PrimAt C f g := by
  intro f g h'
  unfold primT at h'
  split at h'
  · rename_i e; subst e; cases h'; exact prim_idxS (by rw [hP]; exact Tryz.func248) (by kernel_rfl) (by kernel_rfl) (by kernel_rfl) (by kernel_rfl)
  split at h'
  · rename_i e; subst e; cases h'; exact prim_indexByte (by rw [hP]; exact Tryz.func167) (by kernel_rfl) (by kernel_rfl) (by kernel_rfl) (by kernel_rfl)
  · cases h'
theorem hooks : HookOk cfg := by
  intro g id h hh fn c0 ops _ _ _ B0 p s s' a M w _ hs
  have hh : hookT g id = some h := hh
  unfold hookT at hh
  split at hh
  · cases hh; cases hs
  · cases hh
theorem prims : PrimOk cfg := { v := primOk_of (primAt cfg rfl), m := (fun f g h => by cases h), hook := hooks }
end Go.Am.R2

/- Facts of types. -/
namespace Go.Am.R2
open Go.Proofs
set_option maxRecDepth 100000
set_option linter.unusedVariables false
set_option linter.unusedSimpArgs false
theorem sh3 : cfg.shape 3 = .int .i64 := by kernel_rfl
theorem sz3 : cfg.size 3 = some 1 := by kernel_rfl
theorem by3 : cfg.bytes 3 = 8 := by kernel_rfl
theorem ag3 : cfg.isAgg 3 = some false := by kernel_rfl
theorem kn3 : known cfg 3 = true := by kernel_rfl
theorem ze3 : cfg.zero 3 = some (.i .i64 0) := by kernel_rfl
theorem sh4 : cfg.shape 4 = .other := by kernel_rfl
theorem sz4 : cfg.size 4 = some 1 := by kernel_rfl
theorem by4 : cfg.bytes 4 = 1 := by kernel_rfl
theorem ag4 : cfg.isAgg 4 = some false := by kernel_rfl
theorem kn4 : known cfg 4 = true := by kernel_rfl
theorem ze4 : cfg.zero 4 = some (.b false) := by kernel_rfl
theorem sh5 : cfg.shape 5 = .int .u8 := by kernel_rfl
theorem sz5 : cfg.size 5 = some 1 := by kernel_rfl
theorem by5 : cfg.bytes 5 = 1 := by kernel_rfl
theorem ag5 : cfg.isAgg 5 = some false := by kernel_rfl
theorem kn5 : known cfg 5 = true := by kernel_rfl
theorem sh9 : cfg.shape 9 = .string := by kernel_rfl
theorem sz9 : cfg.size 9 = some 1 := by kernel_rfl
theorem by9 : cfg.bytes 9 = 16 := by kernel_rfl
theorem ag9 : cfg.isAgg 9 = some false := by kernel_rfl
theorem kn9 : known cfg 9 = true := by kernel_rfl
theorem ze9 : cfg.zero 9 = some (.s .empty) := by kernel_rfl
theorem sh23 : cfg.shape 23 = .int .i64 := by kernel_rfl
theorem sz23 : cfg.size 23 = some 1 := by kernel_rfl
theorem by23 : cfg.bytes 23 = 8 := by kernel_rfl
theorem ag23 : cfg.isAgg 23 = some false := by kernel_rfl
theorem kn23 : known cfg 23 = true := by kernel_rfl
theorem ze23 : cfg.zero 23 = some (.i .i64 0) := by kernel_rfl
theorem sh27 : cfg.shape 27 = .slice 145 := by kernel_rfl
theorem sz27 : cfg.size 27 = some 1 := by kernel_rfl
theorem by27 : cfg.bytes 27 = 24 := by kernel_rfl
theorem ag27 : cfg.isAgg 27 = some false := by kernel_rfl
theorem kn27 : known cfg 27 = true := by kernel_rfl
theorem el27 : cfg.elem 27 = some (145, 130, (.agg [.i .u8 0, .i .u8 0, .i .u8 0, .i .u8 0, .i .u8 0, .i .u8 0, .i .u8 0, .i .u8 0, .i .u8 0, .i .u8 0, .i .u8 0, .i .u8 0, .i .u8 0, .i .u8 0, .i .u8 0, .i .u8 0, .i .u8 0, .i .u8 0, .i .u8 0, .i .u8 0, .i .u8 0, .i .u8 0, .i .u8 0, .i .u8 0, .i .u8 0, .i .u8 0, .i .u8 0, .i .u8 0, .i .u8 0, .i .u8 0, .i .u8 0, .i .u8 0, .i .u8 0, .i .u8 0, .i .u8 0, .i .u8 0, .i .u8 0, .i .u8 0, .i .u8 0, .i .u8 0, .i .u8 0, .i .u8 0, .i .u8 0, .i .u8 0, .i .u8 0, .i .u8 0, .i .u8 0, .i .u8 0, .i .u8 0, .i .u8 0, .i .u8 0, .i .u8 0, .i .u8 0, .i .u8 0, .i .u8 0, .i .u8 0, .i .u8 0, .i .u8 0, .i .u8 0, .i .u8 0, .i .u8 0, .i .u8 0, .i .u8 0, .i .u8 0, .i .u8 0, .i .u8 0, .i .u8 0, .i .u8 0, .i .u8 0, .i .u8 0, .i .u8 0, .i .u8 0, .i .u8 0, .i .u8 0, .i .u8 0, .i .u8 0, .i .u8 0, .i .u8 0, .i .u8 0, .i .u8 0, .i .u8 0, .i .u8 0, .i .u8 0, .i .u8 0, .i .u8 0, .i .u8 0, .i .u8 0, .i .u8 0, .i .u8 0, .i .u8 0, .i .u8 0, .i .u8 0, .i .u8 0, .i .u8 0, .i .u8 0, .i .u8 0, .i .u8 0, .i .u8 0, .i .u8 0, .i .u8 0, .i .u8 0, .i .u8 0, .i .u8 0, .i .u8 0, .i .u8 0, .i .u8 0, .i .u8 0, .i .u8 0, .i .u8 0, .i .u8 0, .i .u8 0, .i .u8 0, .i .u8 0, .i .u8 0, .i .u8 0, .i .u8 0, .i .u8 0, .i .u8 0, .i .u8 0, .i .u8 0, .i .u8 0, .i .u8 0, .i .u8 0, .i .u8 0, .i .u8 0, .i .u8 0, .i .u8 0, .i .u8 0, (.b false), (.b false)])) := by kernel_rfl
theorem ze27 : cfg.zero 27 = some .nils := by kernel_rfl
theorem sh28 : cfg.shape 28 = .slice 116 := by kernel_rfl
theorem sz28 : cfg.size 28 = some 1 := by kernel_rfl
theorem by28 : cfg.bytes 28 = 24 := by kernel_rfl
theorem ag28 : cfg.isAgg 28 = some false := by kernel_rfl
theorem kn28 : known cfg 28 = true := by kernel_rfl
theorem el28 : cfg.elem 28 = some (116, 129, (.agg [(.i .i64 0), .i .u8 0, .i .u8 0, .i .u8 0, .i .u8 0, .i .u8 0, .i .u8 0, .i .u8 0, .i .u8 0, .i .u8 0, .i .u8 0, .i .u8 0, .i .u8 0, .i .u8 0, .i .u8 0, .i .u8 0, .i .u8 0, .i .u8 0, .i .u8 0, .i .u8 0, .i .u8 0, .i .u8 0, .i .u8 0, .i .u8 0, .i .u8 0, .i .u8 0, .i .u8 0, .i .u8 0, .i .u8 0, .i .u8 0, .i .u8 0, .i .u8 0, .i .u8 0, .i .u8 0, .i .u8 0, .i .u8 0, .i .u8 0, .i .u8 0, .i .u8 0, .i .u8 0, .i .u8 0, .i .u8 0, .i .u8 0, .i .u8 0, .i .u8 0, .i .u8 0, .i .u8 0, .i .u8 0, .i .u8 0, .i .u8 0, .i .u8 0, .i .u8 0, .i .u8 0, .i .u8 0, .i .u8 0, .i .u8 0, .i .u8 0, .i .u8 0, .i .u8 0, .i .u8 0, .i .u8 0, .i .u8 0, .i .u8 0, .i .u8 0, .i .u8 0, .i .u8 0, .i .u8 0, .i .u8 0, .i .u8 0, .i .u8 0, .i .u8 0, .i .u8 0, .i .u8 0, .i .u8 0, .i .u8 0, .i .u8 0, .i .u8 0, .i .u8 0, .i .u8 0, .i .u8 0, .i .u8 0, .i .u8 0, .i .u8 0, .i .u8 0, .i .u8 0, .i .u8 0, .i .u8 0, .i .u8 0, .i .u8 0, .i .u8 0, .i .u8 0, .i .u8 0, .i .u8 0, .i .u8 0, .i .u8 0, .i .u8 0, .i .u8 0, .i .u8 0, .i .u8 0, .i .u8 0, .i .u8 0, .i .u8 0, .i .u8 0, .i .u8 0, .i .u8 0, .i .u8 0, .i .u8 0, .i .u8 0, .i .u8 0, .i .u8 0, .i .u8 0, .i .u8 0, .i .u8 0, .i .u8 0, .i .u8 0, .i .u8 0, .i .u8 0, .i .u8 0, .i .u8 0, .i .u8 0, .i .u8 0, .i .u8 0, .i .u8 0, .i .u8 0, .i .u8 0, .i .u8 0, .i .u8 0, .i .u8 0, (.i .u8 0)])) := by kernel_rfl
theorem ze28 : cfg.zero 28 = some .nils := by kernel_rfl
theorem sh30 : cfg.shape 30 = .other := by kernel_rfl
theorem sz30 : cfg.size 30 = some 4 := by kernel_rfl
theorem by30 : cfg.bytes 30 = 64 := by kernel_rfl
theorem ag30 : cfg.isAgg 30 = some true := by kernel_rfl
theorem kn30 : known cfg 30 = true := by kernel_rfl
theorem ze30 : cfg.zero 30 = some (.agg [.nils, .nils, (.i .i64 0), (.b false)]) := by kernel_rfl
theorem pl30 : cfg.places 30 = some [(0, 1), (1, 1), (2, 1), (3, 1)] := by kernel_rfl
theorem sh31 : cfg.shape 31 = .slice 119 := by kernel_rfl
theorem sz31 : cfg.size 31 = some 1 := by kernel_rfl
theorem by31 : cfg.bytes 31 = 24 := by kernel_rfl
theorem ag31 : cfg.isAgg 31 = some false := by kernel_rfl
theorem kn31 : known cfg 31 = true := by kernel_rfl
theorem el31 : cfg.elem 31 = some (119, 2, (.agg [(.i .i64 0), (.i .i64 0)])) := by kernel_rfl
theorem ze31 : cfg.zero 31 = some .nils := by kernel_rfl
theorem sh33 : cfg.shape 33 = .other := by kernel_rfl
theorem sz33 : cfg.size 33 = some 2 := by kernel_rfl
theorem by33 : cfg.bytes 33 = 32 := by kernel_rfl
theorem ag33 : cfg.isAgg 33 = some true := by kernel_rfl
theorem kn33 : known cfg 33 = true := by kernel_rfl
theorem ze33 : cfg.zero 33 = some (.agg [(.i .i64 0), .nils]) := by kernel_rfl
theorem pl33 : cfg.places 33 = some [(0, 1), (1, 1)] := by kernel_rfl
theorem sh34 : cfg.shape 34 = .array 2 3 := by kernel_rfl
theorem sz34 : cfg.size 34 = some 2 := by kernel_rfl
theorem by34 : cfg.bytes 34 = 16 := by kernel_rfl
theorem ag34 : cfg.isAgg 34 = some true := by kernel_rfl
theorem kn34 : known cfg 34 = true := by kernel_rfl
theorem ze34 : cfg.zero 34 = some (.agg [(.i .i64 0), (.i .i64 0)]) := by kernel_rfl
theorem fk34 : flat cfg 20 34 = some ([(.i .i64), (.i .i64)] : List Fk) := by kernel_rfl
theorem sh35 : cfg.shape 35 = .slice 5 := by kernel_rfl
theorem sz35 : cfg.size 35 = some 1 := by kernel_rfl
theorem by35 : cfg.bytes 35 = 24 := by kernel_rfl
theorem ag35 : cfg.isAgg 35 = some false := by kernel_rfl
theorem kn35 : known cfg 35 = true := by kernel_rfl
theorem el35 : cfg.elem 35 = some (5, 1, (.i .u8 0)) := by kernel_rfl
theorem ze35 : cfg.zero 35 = some .nils := by kernel_rfl
theorem sh37 : cfg.shape 37 = .other := by kernel_rfl
theorem sz37 : cfg.size 37 = some 4 := by kernel_rfl
theorem by37 : cfg.bytes 37 = 48 := by kernel_rfl
theorem ag37 : cfg.isAgg 37 = some true := by kernel_rfl
theorem kn37 : known cfg 37 = true := by kernel_rfl
theorem ze37 : cfg.zero 37 = some (.agg [(.i .i64 0), (.i .i64 0), (.i .i64 0), .nils]) := by kernel_rfl
theorem pl37 : cfg.places 37 = some [(0, 2), (2, 1), (3, 1)] := by kernel_rfl
theorem sh39 : cfg.shape 39 = .other := by kernel_rfl
theorem sz39 : cfg.size 39 = some 10 := by kernel_rfl
theorem by39 : cfg.bytes 39 = 144 := by kernel_rfl
theorem ag39 : cfg.isAgg 39 = some true := by kernel_rfl
theorem kn39 : known cfg 39 = true := by kernel_rfl
theorem ze39 : cfg.zero 39 = some (.agg [.nils, .nils, (.i .i64 0), (.b false), (.i .i64 0), .nils, (.i .i64 0), (.i .i64 0), (.i .i64 0), .nils]) := by kernel_rfl
theorem pl39 : cfg.places 39 = some [(0, 4), (4, 2), (6, 4)] := by kernel_rfl
theorem sh42 : cfg.shape 42 = .other := by kernel_rfl
theorem sz42 : cfg.size 42 = some 34 := by kernel_rfl
theorem by42 : cfg.bytes 42 = 48 := by kernel_rfl
theorem ag42 : cfg.isAgg 42 = some true := by kernel_rfl
theorem kn42 : known cfg 42 = true := by kernel_rfl
theorem ze42 : cfg.zero 42 = some (.agg [(.i .i64 0), (.i .i64 0), .i .u8 0, .i .u8 0, .i .u8 0, .i .u8 0, .i .u8 0, .i .u8 0, .i .u8 0, .i .u8 0, .i .u8 0, .i .u8 0, .i .u8 0, .i .u8 0, .i .u8 0, .i .u8 0, .i .u8 0, .i .u8 0, .i .u8 0, .i .u8 0, .i .u8 0, .i .u8 0, .i .u8 0, .i .u8 0, .i .u8 0, .i .u8 0, .i .u8 0, .i .u8 0, .i .u8 0, .i .u8 0, .i .u8 0, .i .u8 0, .i .u8 0, (.i .u8 0)]) := by kernel_rfl
theorem fk42 : flat cfg 20 42 = some ([(.i .i64), (.i .i64)] ++ List.replicate 32 (.i .u8) : List Fk) := by kernel_rfl
theorem pl42 : cfg.places 42 = some [(0, 1), (1, 1), (2, 32)] := by kernel_rfl
theorem sh44 : cfg.shape 44 = .other := by kernel_rfl
theorem sz44 : cfg.size 44 = some 36 := by kernel_rfl
theorem by44 : cfg.bytes 44 = 64 := by kernel_rfl
theorem ag44 : cfg.isAgg 44 = some true := by kernel_rfl
theorem kn44 : known cfg 44 = true := by kernel_rfl
theorem ze44 : cfg.zero 44 = some (.agg [(.i .i64 0), (.i .i64 0), .i .u8 0, .i .u8 0, .i .u8 0, .i .u8 0, .i .u8 0, .i .u8 0, .i .u8 0, .i .u8 0, .i .u8 0, .i .u8 0, .i .u8 0, .i .u8 0, .i .u8 0, .i .u8 0, .i .u8 0, .i .u8 0, .i .u8 0, .i .u8 0, .i .u8 0, .i .u8 0, .i .u8 0, .i .u8 0, .i .u8 0, .i .u8 0, .i .u8 0, .i .u8 0, .i .u8 0, .i .u8 0, .i .u8 0, .i .u8 0, .i .u8 0, .i .u8 0, (.i .i64 0), (.i .i64 0)]) := by kernel_rfl
theorem fk44 : flat cfg 20 44 = some ([(.i .i64), (.i .i64)] ++ List.replicate 32 (.i .u8) ++ [(.i .i64), (.i .i64)] : List Fk) := by kernel_rfl
theorem pl44 : cfg.places 44 = some [(0, 34), (34, 1), (35, 1)] := by kernel_rfl
theorem sh51 : cfg.shape 51 = .other := by kernel_rfl
theorem sz51 : cfg.size 51 = some 1 := by kernel_rfl
theorem by51 : cfg.bytes 51 = 8 := by kernel_rfl
theorem ag51 : cfg.isAgg 51 = some false := by kernel_rfl
theorem kn51 : known cfg 51 = true := by kernel_rfl
theorem ze51 : cfg.zero 51 = some .nilp := by kernel_rfl
theorem sh52 : cfg.shape 52 = .other := by kernel_rfl
theorem sz52 : cfg.size 52 = some 1 := by kernel_rfl
theorem by52 : cfg.bytes 52 = 8 := by kernel_rfl
theorem ag52 : cfg.isAgg 52 = some false := by kernel_rfl
theorem kn52 : known cfg 52 = true := by kernel_rfl
theorem ze52 : cfg.zero 52 = some .nilp := by kernel_rfl
theorem sh68 : cfg.shape 68 = .other := by kernel_rfl
theorem sz68 : cfg.size 68 = some 6 := by kernel_rfl
theorem by68 : cfg.bytes 68 = 48 := by kernel_rfl
theorem ag68 : cfg.isAgg 68 = some true := by kernel_rfl
theorem kn68 : known cfg 68 = true := by kernel_rfl
theorem ze68 : cfg.zero 68 = some (.agg [(.i .i64 0), (.i .i64 0), (.i .i64 0), (.i .i64 0), (.i .i64 0), (.i .i64 0)]) := by kernel_rfl
theorem fk68 : flat cfg 20 68 = some (List.replicate 6 (.i .i64) : List Fk) := by kernel_rfl
theorem pl68 : cfg.places 68 = some [(0, 1), (1, 1), (2, 1), (3, 1), (4, 1), (5, 1)] := by kernel_rfl
theorem sh86 : cfg.shape 86 = .other := by kernel_rfl
theorem sz86 : cfg.size 86 = some 39 := by kernel_rfl
theorem by86 : cfg.bytes 86 = 88 := by kernel_rfl
theorem ag86 : cfg.isAgg 86 = some true := by kernel_rfl
theorem kn86 : known cfg 86 = true := by kernel_rfl
theorem ze86 : cfg.zero 86 = some (.agg [(.i .i64 0), (.i .i64 0), (.i .i64 0), (.i .i64 0), (.i .i64 0), .i .u8 0, .i .u8 0, .i .u8 0, .i .u8 0, .i .u8 0, .i .u8 0, .i .u8 0, .i .u8 0, .i .u8 0, .i .u8 0, .i .u8 0, .i .u8 0, .i .u8 0, .i .u8 0, .i .u8 0, .i .u8 0, .i .u8 0, .i .u8 0, .i .u8 0, .i .u8 0, .i .u8 0, .i .u8 0, .i .u8 0, .i .u8 0, .i .u8 0, .i .u8 0, .i .u8 0, .i .u8 0, .i .u8 0, .i .u8 0, .i .u8 0, .i .u8 0, (.i .i64 0), (.i .i64 0)]) := by kernel_rfl
theorem fk86 : flat cfg 20 86 = some (List.replicate 5 (.i .i64) ++ List.replicate 32 (.i .u8) ++ [(.i .i64), (.i .i64)] : List Fk) := by kernel_rfl
theorem pl86 : cfg.places 86 = some [(0, 1), (1, 1), (2, 1), (3, 36)] := by kernel_rfl
theorem sh95 : cfg.shape 95 = .map 3 4 := by kernel_rfl
theorem sz95 : cfg.size 95 = some 1 := by kernel_rfl
theorem by95 : cfg.bytes 95 = 8 := by kernel_rfl
theorem ag95 : cfg.isAgg 95 = some false := by kernel_rfl
theorem kn95 : known cfg 95 = true := by kernel_rfl
theorem ze95 : cfg.zero 95 = some .nilm := by kernel_rfl
theorem sh96 : cfg.shape 96 = .slice 3 := by kernel_rfl
theorem sz96 : cfg.size 96 = some 1 := by kernel_rfl
theorem by96 : cfg.bytes 96 = 24 := by kernel_rfl
theorem ag96 : cfg.isAgg 96 = some false := by kernel_rfl
theorem kn96 : known cfg 96 = true := by kernel_rfl
theorem el96 : cfg.elem 96 = some (3, 1, (.i .i64 0)) := by kernel_rfl
theorem ze96 : cfg.zero 96 = some .nils := by kernel_rfl
theorem sh116 : cfg.shape 116 = .other := by kernel_rfl
theorem sz116 : cfg.size 116 = some 129 := by kernel_rfl
theorem by116 : cfg.bytes 116 = 136 := by kernel_rfl
theorem ag116 : cfg.isAgg 116 = some true := by kernel_rfl
theorem kn116 : known cfg 116 = true := by kernel_rfl
theorem ze116 : cfg.zero 116 = some (.agg [(.i .i64 0), .i .u8 0, .i .u8 0, .i .u8 0, .i .u8 0, .i .u8 0, .i .u8 0, .i .u8 0, .i .u8 0, .i .u8 0, .i .u8 0, .i .u8 0, .i .u8 0, .i .u8 0, .i .u8 0, .i .u8 0, .i .u8 0, .i .u8 0, .i .u8 0, .i .u8 0, .i .u8 0, .i .u8 0, .i .u8 0, .i .u8 0, .i .u8 0, .i .u8 0, .i .u8 0, .i .u8 0, .i .u8 0, .i .u8 0, .i .u8 0, .i .u8 0, .i .u8 0, .i .u8 0, .i .u8 0, .i .u8 0, .i .u8 0, .i .u8 0, .i .u8 0, .i .u8 0, .i .u8 0, .i .u8 0, .i .u8 0, .i .u8 0, .i .u8 0, .i .u8 0, .i .u8 0, .i .u8 0, .i .u8 0, .i .u8 0, .i .u8 0, .i .u8 0, .i .u8 0, .i .u8 0, .i .u8 0, .i .u8 0, .i .u8 0, .i .u8 0, .i .u8 0, .i .u8 0, .i .u8 0, .i .u8 0, .i .u8 0, .i .u8 0, .i .u8 0, .i .u8 0, .i .u8 0, .i .u8 0, .i .u8 0, .i .u8 0, .i .u8 0, .i .u8 0, .i .u8 0, .i .u8 0, .i .u8 0, .i .u8 0, .i .u8 0, .i .u8 0, .i .u8 0, .i .u8 0, .i .u8 0, .i .u8 0, .i .u8 0, .i .u8 0, .i .u8 0, .i .u8 0, .i .u8 0, .i .u8 0, .i .u8 0, .i .u8 0, .i .u8 0, .i .u8 0, .i .u8 0, .i .u8 0, .i .u8 0, .i .u8 0, .i .u8 0, .i .u8 0, .i .u8 0, .i .u8 0, .i .u8 0, .i .u8 0, .i .u8 0, .i .u8 0, .i .u8 0, .i .u8 0, .i .u8 0, .i .u8 0, .i .u8 0, .i .u8 0, .i .u8 0, .i .u8 0, .i .u8 0, .i .u8 0, .i .u8 0, .i .u8 0, .i .u8 0, .i .u8 0, .i .u8 0, .i .u8 0, .i .u8 0, .i .u8 0, .i .u8 0, .i .u8 0, .i .u8 0, .i .u8 0, .i .u8 0, .i .u8 0, (.i .u8 0)]) := by kernel_rfl
theorem fk116 : flat cfg 20 116 = some ([(.i .i64)] ++ List.replicate 128 (.i .u8) : List Fk) := by kernel_rfl
theorem pl116 : cfg.places 116 = some [(0, 1), (1, 128)] := by kernel_rfl
theorem sh119 : cfg.shape 119 = .other := by kernel_rfl
theorem sz119 : cfg.size 119 = some 2 := by kernel_rfl
theorem by119 : cfg.bytes 119 = 16 := by kernel_rfl
theorem ag119 : cfg.isAgg 119 = some true := by kernel_rfl
theorem kn119 : known cfg 119 = true := by kernel_rfl
theorem ze119 : cfg.zero 119 = some (.agg [(.i .i64 0), (.i .i64 0)]) := by kernel_rfl
theorem fk119 : flat cfg 20 119 = some ([(.i .i64), (.i .i64)] : List Fk) := by kernel_rfl
theorem pl119 : cfg.places 119 = some [(0, 1), (1, 1)] := by kernel_rfl
theorem sz145 : cfg.size 145 = some 130 := by kernel_rfl
theorem by145 : cfg.bytes 145 = 130 := by kernel_rfl
theorem ag145 : cfg.isAgg 145 = some true := by kernel_rfl
theorem fk145 : flat cfg 20 145 = some (List.replicate 128 (.i .u8) ++ [.b, .b] : List Fk) := by kernel_rfl
theorem sh197 : cfg.shape 197 = .int .u64 := by kernel_rfl
theorem sz197 : cfg.size 197 = some 1 := by kernel_rfl
theorem by197 : cfg.bytes 197 = 8 := by kernel_rfl
theorem ag197 : cfg.isAgg 197 = some false := by kernel_rfl
theorem kn197 : known cfg 197 = true := by kernel_rfl
theorem ze197 : cfg.zero 197 = some (.i .u64 0) := by kernel_rfl
theorem sh229 : cfg.shape 229 = .array 2 95 := by kernel_rfl
theorem sz229 : cfg.size 229 = some 2 := by kernel_rfl
theorem by229 : cfg.bytes 229 = 16 := by kernel_rfl
theorem ag229 : cfg.isAgg 229 = some true := by kernel_rfl
theorem kn229 : known cfg 229 = true := by kernel_rfl
theorem ze229 : cfg.zero 229 = some (.agg [.nilm, .nilm]) := by kernel_rfl
theorem ld3 {σ : List O} {r o : Nat} {st : List Nat} : loadA cfg 3 σ (.ptr r st o) = (rowAt σ r st).bind fun cs => cs[o]? := load_sc ag3
theorem li3 {σ : List O} {cs : List V} : loadA cfg 3 σ (.iptr cs) = cs[0]? := load_ip ag3
theorem sto3 {σ : List O} {r o : Nat} {st : List Nat} {v : V} (hv : v.one = true) : storeA cfg 3 σ (.ptr r st o) v = (rowAt σ r st).bind fun cs => if o < cs.length then some (σ.set r (.cells st (cs.set o v))) else none := store_sc sz3 hv
theorem ld4 {σ : List O} {r o : Nat} {st : List Nat} : loadA cfg 4 σ (.ptr r st o) = (rowAt σ r st).bind fun cs => cs[o]? := load_sc ag4
theorem li4 {σ : List O} {cs : List V} : loadA cfg 4 σ (.iptr cs) = cs[0]? := load_ip ag4
theorem sto4 {σ : List O} {r o : Nat} {st : List Nat} {v : V} (hv : v.one = true) : storeA cfg 4 σ (.ptr r st o) v = (rowAt σ r st).bind fun cs => if o < cs.length then some (σ.set r (.cells st (cs.set o v))) else none := store_sc sz4 hv
theorem ld9 {σ : List O} {r o : Nat} {st : List Nat} : loadA cfg 9 σ (.ptr r st o) = (rowAt σ r st).bind fun cs => cs[o]? := load_sc ag9
theorem li9 {σ : List O} {cs : List V} : loadA cfg 9 σ (.iptr cs) = cs[0]? := load_ip ag9
theorem sto9 {σ : List O} {r o : Nat} {st : List Nat} {v : V} (hv : v.one = true) : storeA cfg 9 σ (.ptr r st o) v = (rowAt σ r st).bind fun cs => if o < cs.length then some (σ.set r (.cells st (cs.set o v))) else none := store_sc sz9 hv
theorem les9 {σ : List O} {b : ByteArray} : lenA cfg 9 σ (.s b) = some (.i .i64 b.size) := len_str sh9
theorem ixs9 {i : Int} {b : ByteArray} {k : IntKind} (h0 : 0 ≤ i) (h1 : i < b.size) : indexA cfg 9 (.s b) (.i k i) = (b[i.toNat]?).map fun x => .i .u8 x.toNat := ixs sh9 h0 h1
theorem ld23 {σ : List O} {r o : Nat} {st : List Nat} : loadA cfg 23 σ (.ptr r st o) = (rowAt σ r st).bind fun cs => cs[o]? := load_sc ag23
theorem li23 {σ : List O} {cs : List V} : loadA cfg 23 σ (.iptr cs) = cs[0]? := load_ip ag23
theorem sto23 {σ : List O} {r o : Nat} {st : List Nat} {v : V} (hv : v.one = true) : storeA cfg 23 σ (.ptr r st o) v = (rowAt σ r st).bind fun cs => if o < cs.length then some (σ.set r (.cells st (cs.set o v))) else none := store_sc sz23 hv
theorem ld27 {σ : List O} {r o : Nat} {st : List Nat} : loadA cfg 27 σ (.ptr r st o) = (rowAt σ r st).bind fun cs => cs[o]? := load_sc ag27
theorem li27 {σ : List O} {cs : List V} : loadA cfg 27 σ (.iptr cs) = cs[0]? := load_ip ag27
theorem sto27 {σ : List O} {r o : Nat} {st : List Nat} {v : V} (hv : v.one = true) : storeA cfg 27 σ (.ptr r st o) v = (rowAt σ r st).bind fun cs => if o < cs.length then some (σ.set r (.cells st (cs.set o v))) else none := store_sc sz27 hv
theorem ixi27 {r o n : Nat} {i : Int} {st : List Nat} {cap : Option Nat} {k : IntKind} (h0 : 0 ≤ i) (h1 : i < n) : indexAddrA cfg 27 (.sl r st o n 130 cap) (.i k i) = some (.ptr r st (o + i.toNat * 130)) := ixi sh27 sz145 h0 h1
theorem iai27 {n : Nat} {i : Int} {cs : List V} {cl : Bool} {k : IntKind} (h0 : 0 ≤ i) (h1 : i < n) : indexAddrA cfg 27 (.arr cs n cl) (.i k i) = some (.iptr (cs.drop (i.toNat * 130))) := iai sh27 sz145 h0 h1
theorem le27 {σ : List O} {r o n es : Nat} {st : List Nat} {cap : Option Nat} : lenA cfg 27 σ (.sl r st o n es cap) = some (.i .i64 n) := len_sl sh27
theorem lr27 {σ : List O} {n : Nat} {cs : List V} {cl : Bool} : lenA cfg 27 σ (.arr cs n cl) = some (.i .i64 n) := len_arr sh27
theorem ln27 {σ : List O} : lenA cfg 27 σ .nils = some (.i .i64 0) := len_nils sh27
theorem ld28 {σ : List O} {r o : Nat} {st : List Nat} : loadA cfg 28 σ (.ptr r st o) = (rowAt σ r st).bind fun cs => cs[o]? := load_sc ag28
theorem li28 {σ : List O} {cs : List V} : loadA cfg 28 σ (.iptr cs) = cs[0]? := load_ip ag28
theorem sto28 {σ : List O} {r o : Nat} {st : List Nat} {v : V} (hv : v.one = true) : storeA cfg 28 σ (.ptr r st o) v = (rowAt σ r st).bind fun cs => if o < cs.length then some (σ.set r (.cells st (cs.set o v))) else none := store_sc sz28 hv
theorem ixi28 {r o n : Nat} {i : Int} {st : List Nat} {cap : Option Nat} {k : IntKind} (h0 : 0 ≤ i) (h1 : i < n) : indexAddrA cfg 28 (.sl r st o n 129 cap) (.i k i) = some (.ptr r st (o + i.toNat * 129)) := ixi sh28 sz116 h0 h1
theorem iai28 {n : Nat} {i : Int} {cs : List V} {cl : Bool} {k : IntKind} (h0 : 0 ≤ i) (h1 : i < n) : indexAddrA cfg 28 (.arr cs n cl) (.i k i) = some (.iptr (cs.drop (i.toNat * 129))) := iai sh28 sz116 h0 h1
theorem le28 {σ : List O} {r o n es : Nat} {st : List Nat} {cap : Option Nat} : lenA cfg 28 σ (.sl r st o n es cap) = some (.i .i64 n) := len_sl sh28
theorem lr28 {σ : List O} {n : Nat} {cs : List V} {cl : Bool} : lenA cfg 28 σ (.arr cs n cl) = some (.i .i64 n) := len_arr sh28
theorem ln28 {σ : List O} : lenA cfg 28 σ .nils = some (.i .i64 0) := len_nils sh28
theorem lda30 {σ : List O} {r o : Nat} {st : List Nat} : loadA cfg 30 σ (.ptr r st o) = (rowAt σ r st).bind fun cs => (take? cs o 4).map V.agg := load_agg ag30 sz30 (by decide)
theorem sta30 {σ : List O} {r o : Nat} {st : List Nat} {us : List V} (hl : us.length = 4) (ho : us.all V.one = true) : storeA cfg 30 σ (.ptr r st o) (.agg us) = (rowAt σ r st).bind fun cs => if o + 4 ≤ cs.length then some (σ.set r (.cells st (splice cs o us))) else none := store_agg sz30 hl ho
theorem bd30 {parts : List (Nat × V)} : buildA cfg 30 parts = (partsAt (fun i => ([(0, 1), (1, 1), (2, 1), (3, 1)] : List (Nat × Nat))[i]?) parts).bind fun l => (fillA [.nils, .nils, (.i .i64 0), (.b false)] l).map V.agg := build_struct sh30 pl30 ze30
theorem fi30x0 : cfg.field 30 0 = some (0, 27) := by kernel_rfl
theorem fi30x1 : cfg.field 30 1 = some (1, 28) := by kernel_rfl
theorem fi30x2 : cfg.field 30 2 = some (2, 3) := by kernel_rfl
theorem fi30x3 : cfg.field 30 3 = some (3, 4) := by kernel_rfl
theorem ld31 {σ : List O} {r o : Nat} {st : List Nat} : loadA cfg 31 σ (.ptr r st o) = (rowAt σ r st).bind fun cs => cs[o]? := load_sc ag31
theorem li31 {σ : List O} {cs : List V} : loadA cfg 31 σ (.iptr cs) = cs[0]? := load_ip ag31
theorem sto31 {σ : List O} {r o : Nat} {st : List Nat} {v : V} (hv : v.one = true) : storeA cfg 31 σ (.ptr r st o) v = (rowAt σ r st).bind fun cs => if o < cs.length then some (σ.set r (.cells st (cs.set o v))) else none := store_sc sz31 hv
theorem ixi31 {r o n : Nat} {i : Int} {st : List Nat} {cap : Option Nat} {k : IntKind} (h0 : 0 ≤ i) (h1 : i < n) : indexAddrA cfg 31 (.sl r st o n 2 cap) (.i k i) = some (.ptr r st (o + i.toNat * 2)) := ixi sh31 sz119 h0 h1
theorem iai31 {n : Nat} {i : Int} {cs : List V} {cl : Bool} {k : IntKind} (h0 : 0 ≤ i) (h1 : i < n) : indexAddrA cfg 31 (.arr cs n cl) (.i k i) = some (.iptr (cs.drop (i.toNat * 2))) := iai sh31 sz119 h0 h1
theorem le31 {σ : List O} {r o n es : Nat} {st : List Nat} {cap : Option Nat} : lenA cfg 31 σ (.sl r st o n es cap) = some (.i .i64 n) := len_sl sh31
theorem lr31 {σ : List O} {n : Nat} {cs : List V} {cl : Bool} : lenA cfg 31 σ (.arr cs n cl) = some (.i .i64 n) := len_arr sh31
theorem ln31 {σ : List O} : lenA cfg 31 σ .nils = some (.i .i64 0) := len_nils sh31
theorem lda33 {σ : List O} {r o : Nat} {st : List Nat} : loadA cfg 33 σ (.ptr r st o) = (rowAt σ r st).bind fun cs => (take? cs o 2).map V.agg := load_agg ag33 sz33 (by decide)
theorem sta33 {σ : List O} {r o : Nat} {st : List Nat} {us : List V} (hl : us.length = 2) (ho : us.all V.one = true) : storeA cfg 33 σ (.ptr r st o) (.agg us) = (rowAt σ r st).bind fun cs => if o + 2 ≤ cs.length then some (σ.set r (.cells st (splice cs o us))) else none := store_agg sz33 hl ho
theorem bd33 {parts : List (Nat × V)} : buildA cfg 33 parts = (partsAt (fun i => ([(0, 1), (1, 1)] : List (Nat × Nat))[i]?) parts).bind fun l => (fillA [(.i .i64 0), .nils] l).map V.agg := build_struct sh33 pl33 ze33
theorem fi33x0 : cfg.field 33 0 = some (0, 3) := by kernel_rfl
theorem fi33x1 : cfg.field 33 1 = some (1, 31) := by kernel_rfl
theorem ipi34 {r o : Nat} {i : Int} {st : List Nat} {k : IntKind} (h0 : 0 ≤ i) (h1 : i < 2) : indexAddrA cfg 34 (.ptr r st o) (.i k i) = some (.ptr r st (o + i.toNat * 1)) := ipi (m := 2) sh34 sz3 h0 h1
theorem ixv34 {i : Int} {cs : List V} {k : IntKind} (h0 : 0 ≤ i) (h1 : i < 2) : indexA cfg 34 (.agg cs) (.i k i) = cs[i.toNat]? := ixv (m := 2) sh34 sz3 ag3 h0 h1
theorem eq34 {x y : Operand} {us vs : List V} (hu : us.map V.fk = ([(.i .i64), (.i .i64)] : List Fk).map some) (hv : vs.map V.fk = ([(.i .i64), (.i .i64)] : List Fk).map some) : binA cfg .eql 34 x y (.agg us) (.agg vs) = some (.b (eqB us vs)) := (binA_flat fk34 ag34 (by kernel_rfl) hu hv).1
theorem ne34 {x y : Operand} {us vs : List V} (hu : us.map V.fk = ([(.i .i64), (.i .i64)] : List Fk).map some) (hv : vs.map V.fk = ([(.i .i64), (.i .i64)] : List Fk).map some) : binA cfg .neq 34 x y (.agg us) (.agg vs) = some (.b (!eqB us vs)) := (binA_flat fk34 ag34 (by kernel_rfl) hu hv).2
theorem lda34 {σ : List O} {r o : Nat} {st : List Nat} : loadA cfg 34 σ (.ptr r st o) = (rowAt σ r st).bind fun cs => (take? cs o 2).map V.agg := load_agg ag34 sz34 (by decide)
theorem sta34 {σ : List O} {r o : Nat} {st : List Nat} {us : List V} (hl : us.length = 2) (ho : us.all V.one = true) : storeA cfg 34 σ (.ptr r st o) (.agg us) = (rowAt σ r st).bind fun cs => if o + 2 ≤ cs.length then some (σ.set r (.cells st (splice cs o us))) else none := store_agg sz34 hl ho
theorem bd34 {parts : List (Nat × V)} : buildA cfg 34 parts = (partsAt (fun i => some (i * 1, 1)) parts).bind fun l => (fillA [(.i .i64 0), (.i .i64 0)] l).map V.agg := build_array sh34 sz3 ze34
theorem ld35 {σ : List O} {r o : Nat} {st : List Nat} : loadA cfg 35 σ (.ptr r st o) = (rowAt σ r st).bind fun cs => cs[o]? := load_sc ag35
theorem li35 {σ : List O} {cs : List V} : loadA cfg 35 σ (.iptr cs) = cs[0]? := load_ip ag35
theorem sto35 {σ : List O} {r o : Nat} {st : List Nat} {v : V} (hv : v.one = true) : storeA cfg 35 σ (.ptr r st o) v = (rowAt σ r st).bind fun cs => if o < cs.length then some (σ.set r (.cells st (cs.set o v))) else none := store_sc sz35 hv
theorem ix35 {r o n j : Nat} {st : List Nat} {cap : Option Nat} {k : IntKind} (h : j < n) : indexAddrA cfg 35 (.sl r st o n 1 cap) (.i k j) = some (.ptr r st (o + j)) := idx_sl sh35 sz5 h
theorem ia35 {n j : Nat} {cs : List V} {cl : Bool} {k : IntKind} (h : j < n) : indexAddrA cfg 35 (.arr cs n cl) (.i k j) = some (.iptr (cs.drop j)) := idx_arr sh35 sz5 h
theorem mk35 {σ : List O} {st : List Nat} {n : Nat} (h : n ≤ 1000000000000) : makeSliceA cfg 35 (.i .i64 n) (.i .i64 n) σ st = some (.sl σ.length st 0 n 1 (some n), σ ++ [.cells st (List.replicate n (.i .u8 0))]) := make_sc el35 by5 (by omega) (by omega) rfl
theorem ixi35 {r o n : Nat} {i : Int} {st : List Nat} {cap : Option Nat} {k : IntKind} (h0 : 0 ≤ i) (h1 : i < n) : indexAddrA cfg 35 (.sl r st o n 1 cap) (.i k i) = some (.ptr r st (o + i.toNat * 1)) := ixi sh35 sz5 h0 h1
theorem iai35 {n : Nat} {i : Int} {cs : List V} {cl : Bool} {k : IntKind} (h0 : 0 ≤ i) (h1 : i < n) : indexAddrA cfg 35 (.arr cs n cl) (.i k i) = some (.iptr (cs.drop (i.toNat * 1))) := iai sh35 sz5 h0 h1
theorem le35 {σ : List O} {r o n es : Nat} {st : List Nat} {cap : Option Nat} : lenA cfg 35 σ (.sl r st o n es cap) = some (.i .i64 n) := len_sl sh35
theorem lr35 {σ : List O} {n : Nat} {cs : List V} {cl : Bool} : lenA cfg 35 σ (.arr cs n cl) = some (.i .i64 n) := len_arr sh35
theorem ln35 {σ : List O} : lenA cfg 35 σ .nils = some (.i .i64 0) := len_nils sh35
theorem lda37 {σ : List O} {r o : Nat} {st : List Nat} : loadA cfg 37 σ (.ptr r st o) = (rowAt σ r st).bind fun cs => (take? cs o 4).map V.agg := load_agg ag37 sz37 (by decide)
theorem sta37 {σ : List O} {r o : Nat} {st : List Nat} {us : List V} (hl : us.length = 4) (ho : us.all V.one = true) : storeA cfg 37 σ (.ptr r st o) (.agg us) = (rowAt σ r st).bind fun cs => if o + 4 ≤ cs.length then some (σ.set r (.cells st (splice cs o us))) else none := store_agg sz37 hl ho
theorem bd37 {parts : List (Nat × V)} : buildA cfg 37 parts = (partsAt (fun i => ([(0, 2), (2, 1), (3, 1)] : List (Nat × Nat))[i]?) parts).bind fun l => (fillA [(.i .i64 0), (.i .i64 0), (.i .i64 0), .nils] l).map V.agg := build_struct sh37 pl37 ze37
theorem fi37x0 : cfg.field 37 0 = some (0, 34) := by kernel_rfl
theorem fi37x1 : cfg.field 37 1 = some (2, 3) := by kernel_rfl
theorem fi37x2 : cfg.field 37 2 = some (3, 35) := by kernel_rfl
theorem lda39 {σ : List O} {r o : Nat} {st : List Nat} : loadA cfg 39 σ (.ptr r st o) = (rowAt σ r st).bind fun cs => (take? cs o 10).map V.agg := load_agg ag39 sz39 (by decide)
theorem sta39 {σ : List O} {r o : Nat} {st : List Nat} {us : List V} (hl : us.length = 10) (ho : us.all V.one = true) : storeA cfg 39 σ (.ptr r st o) (.agg us) = (rowAt σ r st).bind fun cs => if o + 10 ≤ cs.length then some (σ.set r (.cells st (splice cs o us))) else none := store_agg sz39 hl ho
theorem bd39 {parts : List (Nat × V)} : buildA cfg 39 parts = (partsAt (fun i => ([(0, 4), (4, 2), (6, 4)] : List (Nat × Nat))[i]?) parts).bind fun l => (fillA [.nils, .nils, (.i .i64 0), (.b false), (.i .i64 0), .nils, (.i .i64 0), (.i .i64 0), (.i .i64 0), .nils] l).map V.agg := build_struct sh39 pl39 ze39
theorem fi39x0 : cfg.field 39 0 = some (0, 30) := by kernel_rfl
theorem fi39x1 : cfg.field 39 1 = some (4, 33) := by kernel_rfl
theorem fi39x2 : cfg.field 39 2 = some (6, 37) := by kernel_rfl
theorem eq42 {x y : Operand} {us vs : List V} (hu : us.map V.fk = ([(.i .i64), (.i .i64)] ++ List.replicate 32 (.i .u8) : List Fk).map some) (hv : vs.map V.fk = ([(.i .i64), (.i .i64)] ++ List.replicate 32 (.i .u8) : List Fk).map some) : binA cfg .eql 42 x y (.agg us) (.agg vs) = some (.b (eqB us vs)) := (binA_flat fk42 ag42 (by kernel_rfl) hu hv).1
theorem ne42 {x y : Operand} {us vs : List V} (hu : us.map V.fk = ([(.i .i64), (.i .i64)] ++ List.replicate 32 (.i .u8) : List Fk).map some) (hv : vs.map V.fk = ([(.i .i64), (.i .i64)] ++ List.replicate 32 (.i .u8) : List Fk).map some) : binA cfg .neq 42 x y (.agg us) (.agg vs) = some (.b (!eqB us vs)) := (binA_flat fk42 ag42 (by kernel_rfl) hu hv).2
theorem lda42 {σ : List O} {r o : Nat} {st : List Nat} : loadA cfg 42 σ (.ptr r st o) = (rowAt σ r st).bind fun cs => (take? cs o 34).map V.agg := load_agg ag42 sz42 (by decide)
theorem sta42 {σ : List O} {r o : Nat} {st : List Nat} {us : List V} (hl : us.length = 34) (ho : us.all V.one = true) : storeA cfg 42 σ (.ptr r st o) (.agg us) = (rowAt σ r st).bind fun cs => if o + 34 ≤ cs.length then some (σ.set r (.cells st (splice cs o us))) else none := store_agg sz42 hl ho
theorem bd42 {parts : List (Nat × V)} : buildA cfg 42 parts = (partsAt (fun i => ([(0, 1), (1, 1), (2, 32)] : List (Nat × Nat))[i]?) parts).bind fun l => (fillA [(.i .i64 0), (.i .i64 0), .i .u8 0, .i .u8 0, .i .u8 0, .i .u8 0, .i .u8 0, .i .u8 0, .i .u8 0, .i .u8 0, .i .u8 0, .i .u8 0, .i .u8 0, .i .u8 0, .i .u8 0, .i .u8 0, .i .u8 0, .i .u8 0, .i .u8 0, .i .u8 0, .i .u8 0, .i .u8 0, .i .u8 0, .i .u8 0, .i .u8 0, .i .u8 0, .i .u8 0, .i .u8 0, .i .u8 0, .i .u8 0, .i .u8 0, .i .u8 0, .i .u8 0, (.i .u8 0)] l).map V.agg := build_struct sh42 pl42 ze42
theorem fi42x0 : cfg.field 42 0 = some (0, 3) := by kernel_rfl
theorem fi42x1 : cfg.field 42 1 = some (1, 3) := by kernel_rfl
theorem fi42x2 : cfg.field 42 2 = some (2, 40) := by kernel_rfl
theorem eq44 {x y : Operand} {us vs : List V} (hu : us.map V.fk = ([(.i .i64), (.i .i64)] ++ List.replicate 32 (.i .u8) ++ [(.i .i64), (.i .i64)] : List Fk).map some) (hv : vs.map V.fk = ([(.i .i64), (.i .i64)] ++ List.replicate 32 (.i .u8) ++ [(.i .i64), (.i .i64)] : List Fk).map some) : binA cfg .eql 44 x y (.agg us) (.agg vs) = some (.b (eqB us vs)) := (binA_flat fk44 ag44 (by kernel_rfl) hu hv).1
theorem ne44 {x y : Operand} {us vs : List V} (hu : us.map V.fk = ([(.i .i64), (.i .i64)] ++ List.replicate 32 (.i .u8) ++ [(.i .i64), (.i .i64)] : List Fk).map some) (hv : vs.map V.fk = ([(.i .i64), (.i .i64)] ++ List.replicate 32 (.i .u8) ++ [(.i .i64), (.i .i64)] : List Fk).map some) : binA cfg .neq 44 x y (.agg us) (.agg vs) = some (.b (!eqB us vs)) := (binA_flat fk44 ag44 (by kernel_rfl) hu hv).2
theorem lda44 {σ : List O} {r o : Nat} {st : List Nat} : loadA cfg 44 σ (.ptr r st o) = (rowAt σ r st).bind fun cs => (take? cs o 36).map V.agg := load_agg ag44 sz44 (by decide)
theorem sta44 {σ : List O} {r o : Nat} {st : List Nat} {us : List V} (hl : us.length = 36) (ho : us.all V.one = true) : storeA cfg 44 σ (.ptr r st o) (.agg us) = (rowAt σ r st).bind fun cs => if o + 36 ≤ cs.length then some (σ.set r (.cells st (splice cs o us))) else none := store_agg sz44 hl ho
theorem bd44 {parts : List (Nat × V)} : buildA cfg 44 parts = (partsAt (fun i => ([(0, 34), (34, 1), (35, 1)] : List (Nat × Nat))[i]?) parts).bind fun l => (fillA [(.i .i64 0), (.i .i64 0), .i .u8 0, .i .u8 0, .i .u8 0, .i .u8 0, .i .u8 0, .i .u8 0, .i .u8 0, .i .u8 0, .i .u8 0, .i .u8 0, .i .u8 0, .i .u8 0, .i .u8 0, .i .u8 0, .i .u8 0, .i .u8 0, .i .u8 0, .i .u8 0, .i .u8 0, .i .u8 0, .i .u8 0, .i .u8 0, .i .u8 0, .i .u8 0, .i .u8 0, .i .u8 0, .i .u8 0, .i .u8 0, .i .u8 0, .i .u8 0, .i .u8 0, .i .u8 0, (.i .i64 0), (.i .i64 0)] l).map V.agg := build_struct sh44 pl44 ze44
theorem fi44x0 : cfg.field 44 0 = some (0, 42) := by kernel_rfl
theorem fi44x1 : cfg.field 44 1 = some (34, 3) := by kernel_rfl
theorem fi44x2 : cfg.field 44 2 = some (35, 3) := by kernel_rfl
theorem ld51 {σ : List O} {r o : Nat} {st : List Nat} : loadA cfg 51 σ (.ptr r st o) = (rowAt σ r st).bind fun cs => cs[o]? := load_sc ag51
theorem li51 {σ : List O} {cs : List V} : loadA cfg 51 σ (.iptr cs) = cs[0]? := load_ip ag51
theorem sto51 {σ : List O} {r o : Nat} {st : List Nat} {v : V} (hv : v.one = true) : storeA cfg 51 σ (.ptr r st o) v = (rowAt σ r st).bind fun cs => if o < cs.length then some (σ.set r (.cells st (cs.set o v))) else none := store_sc sz51 hv
theorem ld52 {σ : List O} {r o : Nat} {st : List Nat} : loadA cfg 52 σ (.ptr r st o) = (rowAt σ r st).bind fun cs => cs[o]? := load_sc ag52
theorem li52 {σ : List O} {cs : List V} : loadA cfg 52 σ (.iptr cs) = cs[0]? := load_ip ag52
theorem sto52 {σ : List O} {r o : Nat} {st : List Nat} {v : V} (hv : v.one = true) : storeA cfg 52 σ (.ptr r st o) v = (rowAt σ r st).bind fun cs => if o < cs.length then some (σ.set r (.cells st (cs.set o v))) else none := store_sc sz52 hv
theorem eq68 {x y : Operand} {us vs : List V} (hu : us.map V.fk = (List.replicate 6 (.i .i64) : List Fk).map some) (hv : vs.map V.fk = (List.replicate 6 (.i .i64) : List Fk).map some) : binA cfg .eql 68 x y (.agg us) (.agg vs) = some (.b (eqB us vs)) := (binA_flat fk68 ag68 (by kernel_rfl) hu hv).1
theorem ne68 {x y : Operand} {us vs : List V} (hu : us.map V.fk = (List.replicate 6 (.i .i64) : List Fk).map some) (hv : vs.map V.fk = (List.replicate 6 (.i .i64) : List Fk).map some) : binA cfg .neq 68 x y (.agg us) (.agg vs) = some (.b (!eqB us vs)) := (binA_flat fk68 ag68 (by kernel_rfl) hu hv).2
theorem lda68 {σ : List O} {r o : Nat} {st : List Nat} : loadA cfg 68 σ (.ptr r st o) = (rowAt σ r st).bind fun cs => (take? cs o 6).map V.agg := load_agg ag68 sz68 (by decide)
theorem sta68 {σ : List O} {r o : Nat} {st : List Nat} {us : List V} (hl : us.length = 6) (ho : us.all V.one = true) : storeA cfg 68 σ (.ptr r st o) (.agg us) = (rowAt σ r st).bind fun cs => if o + 6 ≤ cs.length then some (σ.set r (.cells st (splice cs o us))) else none := store_agg sz68 hl ho
theorem bd68 {parts : List (Nat × V)} : buildA cfg 68 parts = (partsAt (fun i => ([(0, 1), (1, 1), (2, 1), (3, 1), (4, 1), (5, 1)] : List (Nat × Nat))[i]?) parts).bind fun l => (fillA [(.i .i64 0), (.i .i64 0), (.i .i64 0), (.i .i64 0), (.i .i64 0), (.i .i64 0)] l).map V.agg := build_struct sh68 pl68 ze68
theorem fi68x0 : cfg.field 68 0 = some (0, 3) := by kernel_rfl
theorem fi68x1 : cfg.field 68 1 = some (1, 3) := by kernel_rfl
theorem fi68x2 : cfg.field 68 2 = some (2, 3) := by kernel_rfl
theorem fi68x3 : cfg.field 68 3 = some (3, 3) := by kernel_rfl
theorem fi68x4 : cfg.field 68 4 = some (4, 3) := by kernel_rfl
theorem fi68x5 : cfg.field 68 5 = some (5, 3) := by kernel_rfl
theorem eq86 {x y : Operand} {us vs : List V} (hu : us.map V.fk = (List.replicate 5 (.i .i64) ++ List.replicate 32 (.i .u8) ++ [(.i .i64), (.i .i64)] : List Fk).map some) (hv : vs.map V.fk = (List.replicate 5 (.i .i64) ++ List.replicate 32 (.i .u8) ++ [(.i .i64), (.i .i64)] : List Fk).map some) : binA cfg .eql 86 x y (.agg us) (.agg vs) = some (.b (eqB us vs)) := (binA_flat fk86 ag86 (by kernel_rfl) hu hv).1
theorem ne86 {x y : Operand} {us vs : List V} (hu : us.map V.fk = (List.replicate 5 (.i .i64) ++ List.replicate 32 (.i .u8) ++ [(.i .i64), (.i .i64)] : List Fk).map some) (hv : vs.map V.fk = (List.replicate 5 (.i .i64) ++ List.replicate 32 (.i .u8) ++ [(.i .i64), (.i .i64)] : List Fk).map some) : binA cfg .neq 86 x y (.agg us) (.agg vs) = some (.b (!eqB us vs)) := (binA_flat fk86 ag86 (by kernel_rfl) hu hv).2
theorem lda86 {σ : List O} {r o : Nat} {st : List Nat} : loadA cfg 86 σ (.ptr r st o) = (rowAt σ r st).bind fun cs => (take? cs o 39).map V.agg := load_agg ag86 sz86 (by decide)
theorem sta86 {σ : List O} {r o : Nat} {st : List Nat} {us : List V} (hl : us.length = 39) (ho : us.all V.one = true) : storeA cfg 86 σ (.ptr r st o) (.agg us) = (rowAt σ r st).bind fun cs => if o + 39 ≤ cs.length then some (σ.set r (.cells st (splice cs o us))) else none := store_agg sz86 hl ho
theorem bd86 {parts : List (Nat × V)} : buildA cfg 86 parts = (partsAt (fun i => ([(0, 1), (1, 1), (2, 1), (3, 36)] : List (Nat × Nat))[i]?) parts).bind fun l => (fillA [(.i .i64 0), (.i .i64 0), (.i .i64 0), (.i .i64 0), (.i .i64 0), .i .u8 0, .i .u8 0, .i .u8 0, .i .u8 0, .i .u8 0, .i .u8 0, .i .u8 0, .i .u8 0, .i .u8 0, .i .u8 0, .i .u8 0, .i .u8 0, .i .u8 0, .i .u8 0, .i .u8 0, .i .u8 0, .i .u8 0, .i .u8 0, .i .u8 0, .i .u8 0, .i .u8 0, .i .u8 0, .i .u8 0, .i .u8 0, .i .u8 0, .i .u8 0, .i .u8 0, .i .u8 0, .i .u8 0, .i .u8 0, .i .u8 0, .i .u8 0, (.i .i64 0), (.i .i64 0)] l).map V.agg := build_struct sh86 pl86 ze86
theorem fi86x0 : cfg.field 86 0 = some (0, 3) := by kernel_rfl
theorem fi86x1 : cfg.field 86 1 = some (1, 3) := by kernel_rfl
theorem fi86x2 : cfg.field 86 2 = some (2, 3) := by kernel_rfl
theorem fi86x3 : cfg.field 86 3 = some (3, 44) := by kernel_rfl
theorem ld95 {σ : List O} {r o : Nat} {st : List Nat} : loadA cfg 95 σ (.ptr r st o) = (rowAt σ r st).bind fun cs => cs[o]? := load_sc ag95
theorem li95 {σ : List O} {cs : List V} : loadA cfg 95 σ (.iptr cs) = cs[0]? := load_ip ag95
theorem sto95 {σ : List O} {r o : Nat} {st : List Nat} {v : V} (hv : v.one = true) : storeA cfg 95 σ (.ptr r st o) v = (rowAt σ r st).bind fun cs => if o < cs.length then some (σ.set r (.cells st (cs.set o v))) else none := store_sc sz95 hv
theorem ld96 {σ : List O} {r o : Nat} {st : List Nat} : loadA cfg 96 σ (.ptr r st o) = (rowAt σ r st).bind fun cs => cs[o]? := load_sc ag96
theorem li96 {σ : List O} {cs : List V} : loadA cfg 96 σ (.iptr cs) = cs[0]? := load_ip ag96
theorem sto96 {σ : List O} {r o : Nat} {st : List Nat} {v : V} (hv : v.one = true) : storeA cfg 96 σ (.ptr r st o) v = (rowAt σ r st).bind fun cs => if o < cs.length then some (σ.set r (.cells st (cs.set o v))) else none := store_sc sz96 hv
theorem ix96 {r o n j : Nat} {st : List Nat} {cap : Option Nat} {k : IntKind} (h : j < n) : indexAddrA cfg 96 (.sl r st o n 1 cap) (.i k j) = some (.ptr r st (o + j)) := idx_sl sh96 sz3 h
theorem ia96 {n j : Nat} {cs : List V} {cl : Bool} {k : IntKind} (h : j < n) : indexAddrA cfg 96 (.arr cs n cl) (.i k j) = some (.iptr (cs.drop j)) := idx_arr sh96 sz3 h
theorem mk96 {σ : List O} {st : List Nat} {n : Nat} (h : n ≤ 1000000000000) : makeSliceA cfg 96 (.i .i64 n) (.i .i64 n) σ st = some (.sl σ.length st 0 n 1 (some n), σ ++ [.cells st (List.replicate n (.i .i64 0))]) := make_sc el96 by3 (by omega) (by omega) rfl
theorem ixi96 {r o n : Nat} {i : Int} {st : List Nat} {cap : Option Nat} {k : IntKind} (h0 : 0 ≤ i) (h1 : i < n) : indexAddrA cfg 96 (.sl r st o n 1 cap) (.i k i) = some (.ptr r st (o + i.toNat * 1)) := ixi sh96 sz3 h0 h1
theorem iai96 {n : Nat} {i : Int} {cs : List V} {cl : Bool} {k : IntKind} (h0 : 0 ≤ i) (h1 : i < n) : indexAddrA cfg 96 (.arr cs n cl) (.i k i) = some (.iptr (cs.drop (i.toNat * 1))) := iai sh96 sz3 h0 h1
theorem le96 {σ : List O} {r o n es : Nat} {st : List Nat} {cap : Option Nat} : lenA cfg 96 σ (.sl r st o n es cap) = some (.i .i64 n) := len_sl sh96
theorem lr96 {σ : List O} {n : Nat} {cs : List V} {cl : Bool} : lenA cfg 96 σ (.arr cs n cl) = some (.i .i64 n) := len_arr sh96
theorem ln96 {σ : List O} : lenA cfg 96 σ .nils = some (.i .i64 0) := len_nils sh96
theorem eq116 {x y : Operand} {us vs : List V} (hu : us.map V.fk = ([(.i .i64)] ++ List.replicate 128 (.i .u8) : List Fk).map some) (hv : vs.map V.fk = ([(.i .i64)] ++ List.replicate 128 (.i .u8) : List Fk).map some) : binA cfg .eql 116 x y (.agg us) (.agg vs) = some (.b (eqB us vs)) := (binA_flat fk116 ag116 (by kernel_rfl) hu hv).1
theorem ne116 {x y : Operand} {us vs : List V} (hu : us.map V.fk = ([(.i .i64)] ++ List.replicate 128 (.i .u8) : List Fk).map some) (hv : vs.map V.fk = ([(.i .i64)] ++ List.replicate 128 (.i .u8) : List Fk).map some) : binA cfg .neq 116 x y (.agg us) (.agg vs) = some (.b (!eqB us vs)) := (binA_flat fk116 ag116 (by kernel_rfl) hu hv).2
theorem lda116 {σ : List O} {r o : Nat} {st : List Nat} : loadA cfg 116 σ (.ptr r st o) = (rowAt σ r st).bind fun cs => (take? cs o 129).map V.agg := load_agg ag116 sz116 (by decide)
theorem sta116 {σ : List O} {r o : Nat} {st : List Nat} {us : List V} (hl : us.length = 129) (ho : us.all V.one = true) : storeA cfg 116 σ (.ptr r st o) (.agg us) = (rowAt σ r st).bind fun cs => if o + 129 ≤ cs.length then some (σ.set r (.cells st (splice cs o us))) else none := store_agg sz116 hl ho
theorem bd116 {parts : List (Nat × V)} : buildA cfg 116 parts = (partsAt (fun i => ([(0, 1), (1, 128)] : List (Nat × Nat))[i]?) parts).bind fun l => (fillA [(.i .i64 0), .i .u8 0, .i .u8 0, .i .u8 0, .i .u8 0, .i .u8 0, .i .u8 0, .i .u8 0, .i .u8 0, .i .u8 0, .i .u8 0, .i .u8 0, .i .u8 0, .i .u8 0, .i .u8 0, .i .u8 0, .i .u8 0, .i .u8 0, .i .u8 0, .i .u8 0, .i .u8 0, .i .u8 0, .i .u8 0, .i .u8 0, .i .u8 0, .i .u8 0, .i .u8 0, .i .u8 0, .i .u8 0, .i .u8 0, .i .u8 0, .i .u8 0, .i .u8 0, .i .u8 0, .i .u8 0, .i .u8 0, .i .u8 0, .i .u8 0, .i .u8 0, .i .u8 0, .i .u8 0, .i .u8 0, .i .u8 0, .i .u8 0, .i .u8 0, .i .u8 0, .i .u8 0, .i .u8 0, .i .u8 0, .i .u8 0, .i .u8 0, .i .u8 0, .i .u8 0, .i .u8 0, .i .u8 0, .i .u8 0, .i .u8 0, .i .u8 0, .i .u8 0, .i .u8 0, .i .u8 0, .i .u8 0, .i .u8 0, .i .u8 0, .i .u8 0, .i .u8 0, .i .u8 0, .i .u8 0, .i .u8 0, .i .u8 0, .i .u8 0, .i .u8 0, .i .u8 0, .i .u8 0, .i .u8 0, .i .u8 0, .i .u8 0, .i .u8 0, .i .u8 0, .i .u8 0, .i .u8 0, .i .u8 0, .i .u8 0, .i .u8 0, .i .u8 0, .i .u8 0, .i .u8 0, .i .u8 0, .i .u8 0, .i .u8 0, .i .u8 0, .i .u8 0, .i .u8 0, .i .u8 0, .i .u8 0, .i .u8 0, .i .u8 0, .i .u8 0, .i .u8 0, .i .u8 0, .i .u8 0, .i .u8 0, .i .u8 0, .i .u8 0, .i .u8 0, .i .u8 0, .i .u8 0, .i .u8 0, .i .u8 0, .i .u8 0, .i .u8 0, .i .u8 0, .i .u8 0, .i .u8 0, .i .u8 0, .i .u8 0, .i .u8 0, .i .u8 0, .i .u8 0, .i .u8 0, .i .u8 0, .i .u8 0, .i .u8 0, .i .u8 0, .i .u8 0, .i .u8 0, .i .u8 0, .i .u8 0, (.i .u8 0)] l).map V.agg := build_struct sh116 pl116 ze116
theorem fi116x0 : cfg.field 116 0 = some (0, 3) := by kernel_rfl
theorem fi116x1 : cfg.field 116 1 = some (1, 114) := by kernel_rfl
theorem eq119 {x y : Operand} {us vs : List V} (hu : us.map V.fk = ([(.i .i64), (.i .i64)] : List Fk).map some) (hv : vs.map V.fk = ([(.i .i64), (.i .i64)] : List Fk).map some) : binA cfg .eql 119 x y (.agg us) (.agg vs) = some (.b (eqB us vs)) := (binA_flat fk119 ag119 (by kernel_rfl) hu hv).1
theorem ne119 {x y : Operand} {us vs : List V} (hu : us.map V.fk = ([(.i .i64), (.i .i64)] : List Fk).map some) (hv : vs.map V.fk = ([(.i .i64), (.i .i64)] : List Fk).map some) : binA cfg .neq 119 x y (.agg us) (.agg vs) = some (.b (!eqB us vs)) := (binA_flat fk119 ag119 (by kernel_rfl) hu hv).2
theorem lda119 {σ : List O} {r o : Nat} {st : List Nat} : loadA cfg 119 σ (.ptr r st o) = (rowAt σ r st).bind fun cs => (take? cs o 2).map V.agg := load_agg ag119 sz119 (by decide)
theorem sta119 {σ : List O} {r o : Nat} {st : List Nat} {us : List V} (hl : us.length = 2) (ho : us.all V.one = true) : storeA cfg 119 σ (.ptr r st o) (.agg us) = (rowAt σ r st).bind fun cs => if o + 2 ≤ cs.length then some (σ.set r (.cells st (splice cs o us))) else none := store_agg sz119 hl ho
theorem bd119 {parts : List (Nat × V)} : buildA cfg 119 parts = (partsAt (fun i => ([(0, 1), (1, 1)] : List (Nat × Nat))[i]?) parts).bind fun l => (fillA [(.i .i64 0), (.i .i64 0)] l).map V.agg := build_struct sh119 pl119 ze119
theorem fi119x0 : cfg.field 119 0 = some (0, 3) := by kernel_rfl
theorem fi119x1 : cfg.field 119 1 = some (1, 3) := by kernel_rfl
theorem ne145 {x y : Operand} {us vs : List V} (hu : us.map V.fk = (List.replicate 128 (.i .u8) ++ [.b, .b] : List Fk).map some) (hv : vs.map V.fk = (List.replicate 128 (.i .u8) ++ [.b, .b] : List Fk).map some) : binA cfg .neq 145 x y (.agg us) (.agg vs) = some (.b (!eqB us vs)) := (binA_flat fk145 ag145 (by kernel_rfl) hu hv).2
theorem ld197 {σ : List O} {r o : Nat} {st : List Nat} : loadA cfg 197 σ (.ptr r st o) = (rowAt σ r st).bind fun cs => cs[o]? := load_sc ag197
theorem li197 {σ : List O} {cs : List V} : loadA cfg 197 σ (.iptr cs) = cs[0]? := load_ip ag197
theorem sto197 {σ : List O} {r o : Nat} {st : List Nat} {v : V} (hv : v.one = true) : storeA cfg 197 σ (.ptr r st o) v = (rowAt σ r st).bind fun cs => if o < cs.length then some (σ.set r (.cells st (cs.set o v))) else none := store_sc sz197 hv
theorem ipi229 {r o : Nat} {i : Int} {st : List Nat} {k : IntKind} (h0 : 0 ≤ i) (h1 : i < 2) : indexAddrA cfg 229 (.ptr r st o) (.i k i) = some (.ptr r st (o + i.toNat * 1)) := ipi (m := 2) sh229 sz95 h0 h1
theorem ixv229 {i : Int} {cs : List V} {k : IntKind} (h0 : 0 ≤ i) (h1 : i < 2) : indexA cfg 229 (.agg cs) (.i k i) = cs[i.toNat]? := ixv (m := 2) sh229 sz95 ag95 h0 h1
theorem lda229 {σ : List O} {r o : Nat} {st : List Nat} : loadA cfg 229 σ (.ptr r st o) = (rowAt σ r st).bind fun cs => (take? cs o 2).map V.agg := load_agg ag229 sz229 (by decide)
theorem sta229 {σ : List O} {r o : Nat} {st : List Nat} {us : List V} (hl : us.length = 2) (ho : us.all V.one = true) : storeA cfg 229 σ (.ptr r st o) (.agg us) = (rowAt σ r st).bind fun cs => if o + 2 ≤ cs.length then some (σ.set r (.cells st (splice cs o us))) else none := store_agg sz229 hl ho
theorem bd229 {parts : List (Nat × V)} : buildA cfg 229 parts = (partsAt (fun i => some (i * 1, 1)) parts).bind fun l => (fillA [.nilm, .nilm] l).map V.agg := build_array sh229 sz95 ze229
theorem dr10x8 {p : List Nat} {s : St} {Q : Ex → St → Prop} (l : List Oper) : Wq cfg 10 p (.region 8 l.toArray true) s Q = Ops cfg p l.toArray l s (Q .normal) := Wp_draw 8 l (show cfg.cls 10 8 = [] from rfl)
theorem dr11x1 {p : List Nat} {s : St} {Q : Ex → St → Prop} (l : List Oper) : Wq cfg 11 p (.region 1 l.toArray true) s Q = TrQ cfg p l.toArray l s [] fun tr s => ([(2, 4), (2, 7), (5, 7)] : List (Nat × Nat)).all (okPair tr) = true ∧ Q .normal s := Wp_drawT 1 l (show cfg.cls 11 1 = [(2, 4), (2, 7), (5, 7)] from rfl) (by decide)
theorem dr13x6 {p : List Nat} {s : St} {Q : Ex → St → Prop} (l : List Oper) : Wq cfg 13 p (.region 6 l.toArray true) s Q = Ops cfg p l.toArray l s (Q .normal) := Wp_draw 6 l (show cfg.cls 13 6 = [] from rfl)
theorem dr25x4 {p : List Nat} {s : St} {Q : Ex → St → Prop} (l : List Oper) : Wq cfg 25 p (.region 4 l.toArray true) s Q = Ops cfg p l.toArray l s (Q .normal) := Wp_draw 4 l (show cfg.cls 25 4 = [] from rfl)
theorem dr26x13 {p : List Nat} {s : St} {Q : Ex → St → Prop} (l : List Oper) : Wq cfg 26 p (.region 13 l.toArray true) s Q = Ops cfg p l.toArray l s (Q .normal) := Wp_draw 13 l (show cfg.cls 26 13 = [] from rfl)
theorem dr28x1 {p : List Nat} {s : St} {Q : Ex → St → Prop} (l : List Oper) : Wq cfg 28 p (.region 1 l.toArray true) s Q = TrQ cfg p l.toArray l s [] fun tr s => ([(1, 0)] : List (Nat × Nat)).all (okPair tr) = true ∧ Q .normal s := Wp_drawT 1 l (show cfg.cls 28 1 = [(1, 0)] from rfl) (by decide)
theorem dr29x3 {p : List Nat} {s : St} {Q : Ex → St → Prop} (l : List Oper) : Wq cfg 29 p (.region 3 l.toArray true) s Q = TrQ cfg p l.toArray l s [] fun tr s => ([(4, 1)] : List (Nat × Nat)).all (okPair tr) = true ∧ Q .normal s := Wp_drawT 3 l (show cfg.cls 29 3 = [(4, 1)] from rfl) (by decide)
theorem dr33x6 {p : List Nat} {s : St} {Q : Ex → St → Prop} (l : List Oper) : Wq cfg 33 p (.region 6 l.toArray true) s Q = TrQ cfg p l.toArray l s [] fun tr s => ([(6, 3)] : List (Nat × Nat)).all (okPair tr) = true ∧ Q .normal s := Wp_drawT 6 l (show cfg.cls 33 6 = [(6, 3)] from rfl) (by decide)
theorem dr34x4 {p : List Nat} {s : St} {Q : Ex → St → Prop} (l : List Oper) : Wq cfg 34 p (.region 4 l.toArray true) s Q = Ops cfg p l.toArray l s (Q .normal) := Wp_draw 4 l (show cfg.cls 34 4 = [] from rfl)
theorem dr43x3 {p : List Nat} {s : St} {Q : Ex → St → Prop} (l : List Oper) : Wq cfg 43 p (.region 3 l.toArray true) s Q = TrQ cfg p l.toArray l s [] fun tr s => ([(3, 1)] : List (Nat × Nat)).all (okPair tr) = true ∧ Q .normal s := Wp_drawT 3 l (show cfg.cls 43 3 = [(3, 1)] from rfl) (by decide)
theorem dr56x6 {p : List Nat} {s : St} {Q : Ex → St → Prop} (l : List Oper) : Wq cfg 56 p (.region 6 l.toArray true) s Q = Ops cfg p l.toArray l s (Q .normal) := Wp_draw 6 l (show cfg.cls 56 6 = [] from rfl)
theorem dr56x11 {p : List Nat} {s : St} {Q : Ex → St → Prop} (l : List Oper) : Wq cfg 56 p (.region 11 l.toArray true) s Q = Ops cfg p l.toArray l s (Q .normal) := Wp_draw 11 l (show cfg.cls 56 11 = [] from rfl)
theorem dr57x6 {p : List Nat} {s : St} {Q : Ex → St → Prop} (l : List Oper) : Wq cfg 57 p (.region 6 l.toArray true) s Q = Ops cfg p l.toArray l s (Q .normal) := Wp_draw 6 l (show cfg.cls 57 6 = [] from rfl)
theorem dr70x4 {p : List Nat} {s : St} {Q : Ex → St → Prop} (l : List Oper) : Wq cfg 70 p (.region 4 l.toArray true) s Q = Ops cfg p l.toArray l s (Q .normal) := Wp_draw 4 l (show cfg.cls 70 4 = [] from rfl)
theorem dr70x5 {p : List Nat} {s : St} {Q : Ex → St → Prop} (l : List Oper) : Wq cfg 70 p (.region 5 l.toArray true) s Q = Ops cfg p l.toArray l s (Q .normal) := Wp_draw 5 l (show cfg.cls 70 5 = [] from rfl)
theorem dr78x6 {p : List Nat} {s : St} {Q : Ex → St → Prop} (l : List Oper) : Wq cfg 78 p (.region 6 l.toArray true) s Q = TrQ cfg p l.toArray l s [] fun tr s => ([(6, 3)] : List (Nat × Nat)).all (okPair tr) = true ∧ Q .normal s := Wp_drawT 6 l (show cfg.cls 78 6 = [(6, 3)] from rfl) (by decide)
theorem dr111x1 {p : List Nat} {s : St} {Q : Ex → St → Prop} (l : List Oper) : Wq cfg 111 p (.region 1 l.toArray true) s Q = Ops cfg p l.toArray l s (Q .normal) := Wp_draw 1 l (show cfg.cls 111 1 = [] from rfl)
theorem dr118x1 {p : List Nat} {s : St} {Q : Ex → St → Prop} (l : List Oper) : Wq cfg 118 p (.region 1 l.toArray true) s Q = Ops cfg p l.toArray l s (Q .normal) := Wp_draw 1 l (show cfg.cls 118 1 = [] from rfl)
theorem dr122x1 {p : List Nat} {s : St} {Q : Ex → St → Prop} (l : List Oper) : Wq cfg 122 p (.region 1 l.toArray true) s Q = Ops cfg p l.toArray l s (Q .normal) := Wp_draw 1 l (show cfg.cls 122 1 = [] from rfl)
theorem dr144x1 {p : List Nat} {s : St} {Q : Ex → St → Prop} (l : List Oper) : Wq cfg 144 p (.region 1 l.toArray true) s Q = TrQ cfg p l.toArray l s [] fun tr s => ([(1, 0)] : List (Nat × Nat)).all (okPair tr) = true ∧ Q .normal s := Wp_drawT 1 l (show cfg.cls 144 1 = [(1, 0)] from rfl) (by decide)
theorem dr170x11 {p : List Nat} {s : St} {Q : Ex → St → Prop} (l : List Oper) : Wq cfg 170 p (.region 11 l.toArray true) s Q = TrQ cfg p l.toArray l s [] fun tr s => ([(8, 5), (8, 7)] : List (Nat × Nat)).all (okPair tr) = true ∧ Q .normal s := Wp_drawT 11 l (show cfg.cls 170 11 = [(8, 5), (8, 7)] from rfl) (by decide)
theorem dr191x2 {p : List Nat} {s : St} {Q : Ex → St → Prop} (l : List Oper) : Wq cfg 191 p (.region 2 l.toArray true) s Q = TrQ cfg p l.toArray l s [] fun tr s => ([(24, 22)] : List (Nat × Nat)).all (okPair tr) = true ∧ Q .normal s := Wp_drawT 2 l (show cfg.cls 191 2 = [(24, 22)] from rfl) (by decide)
theorem un4 : cfg.P.underlying 4 = some .bool := Tryz.underlying4
theorem bne4 {x y : Operand} {a b : Bool} : binA cfg .neq 4 x y (.b a) (.b b) = some (.b (!(a == b))) := binA_bneq un4
end Go.Am.R2

/- Facts of types, all of one type in one: simp takes them apart. -/
namespace Go.Am.R2
theorem Y3 : type_of% (And.intro @sh3 (And.intro @sz3 (And.intro @by3 (And.intro @ag3 (And.intro @kn3 (And.intro @ze3 (And.intro @ld3 (And.intro @li3 (@sto3))))))))) := ⟨@sh3, @sz3, @by3, @ag3, @kn3, @ze3, @ld3, @li3, @sto3⟩
theorem Y4 : type_of% (And.intro @sh4 (And.intro @sz4 (And.intro @by4 (And.intro @ag4 (And.intro @kn4 (And.intro @ze4 (And.intro @ld4 (And.intro @li4 (@sto4))))))))) := ⟨@sh4, @sz4, @by4, @ag4, @kn4, @ze4, @ld4, @li4, @sto4⟩
theorem Y9 : type_of% (And.intro @sh9 (And.intro @sz9 (And.intro @by9 (And.intro @ag9 (And.intro @kn9 (And.intro @ze9 (And.intro @ld9 (And.intro @li9 (And.intro @sto9 (And.intro @les9 (@ixs9))))))))))) := ⟨@sh9, @sz9, @by9, @ag9, @kn9, @ze9, @ld9, @li9, @sto9, @les9, @ixs9⟩
theorem Y23 : type_of% (And.intro @sh23 (And.intro @sz23 (And.intro @by23 (And.intro @ag23 (And.intro @kn23 (And.intro @ze23 (And.intro @ld23 (And.intro @li23 (@sto23))))))))) := ⟨@sh23, @sz23, @by23, @ag23, @kn23, @ze23, @ld23, @li23, @sto23⟩
theorem Y27 : type_of% (And.intro @sh27 (And.intro @sz27 (And.intro @by27 (And.intro @ag27 (And.intro @kn27 (And.intro @el27 (And.intro @ze27 (And.intro @ld27 (And.intro @li27 (And.intro @sto27 (And.intro @ixi27 (And.intro @iai27 (And.intro @le27 (And.intro @lr27 (@ln27))))))))))))))) := ⟨@sh27, @sz27, @by27, @ag27, @kn27, @el27, @ze27, @ld27, @li27, @sto27, @ixi27, @iai27, @le27, @lr27, @ln27⟩
theorem Y28 : type_of% (And.intro @sh28 (And.intro @sz28 (And.intro @by28 (And.intro @ag28 (And.intro @kn28 (And.intro @el28 (And.intro @ze28 (And.intro @ld28 (And.intro @li28 (And.intro @sto28 (And.intro @ixi28 (And.intro @iai28 (And.intro @le28 (And.intro @lr28 (@ln28))))))))))))))) := ⟨@sh28, @sz28, @by28, @ag28, @kn28, @el28, @ze28, @ld28, @li28, @sto28, @ixi28, @iai28, @le28, @lr28, @ln28⟩
theorem Y30 : type_of% (And.intro @sh30 (And.intro @sz30 (And.intro @by30 (And.intro @ag30 (And.intro @kn30 (And.intro @ze30 (And.intro @pl30 (And.intro @lda30 (And.intro @sta30 (And.intro @bd30 (And.intro @fi30x0 (And.intro @fi30x1 (And.intro @fi30x2 (@fi30x3)))))))))))))) := ⟨@sh30, @sz30, @by30, @ag30, @kn30, @ze30, @pl30, @lda30, @sta30, @bd30, @fi30x0, @fi30x1, @fi30x2, @fi30x3⟩
theorem Y31 : type_of% (And.intro @sh31 (And.intro @sz31 (And.intro @by31 (And.intro @ag31 (And.intro @kn31 (And.intro @el31 (And.intro @ze31 (And.intro @ld31 (And.intro @li31 (And.intro @sto31 (And.intro @ixi31 (And.intro @iai31 (And.intro @le31 (And.intro @lr31 (@ln31))))))))))))))) := ⟨@sh31, @sz31, @by31, @ag31, @kn31, @el31, @ze31, @ld31, @li31, @sto31, @ixi31, @iai31, @le31, @lr31, @ln31⟩
theorem Y33 : type_of% (And.intro @sh33 (And.intro @sz33 (And.intro @by33 (And.intro @ag33 (And.intro @kn33 (And.intro @ze33 (And.intro @pl33 (And.intro @lda33 (And.intro @sta33 (And.intro @bd33 (And.intro @fi33x0 (@fi33x1)))))))))))) := ⟨@sh33, @sz33, @by33, @ag33, @kn33, @ze33, @pl33, @lda33, @sta33, @bd33, @fi33x0, @fi33x1⟩
theorem Y34 : type_of% (And.intro @sh34 (And.intro @sz34 (And.intro @by34 (And.intro @ag34 (And.intro @kn34 (And.intro @ze34 (And.intro @fk34 (And.intro @ipi34 (And.intro @ixv34 (And.intro @eq34 (And.intro @ne34 (And.intro @lda34 (And.intro @sta34 (@bd34)))))))))))))) := ⟨@sh34, @sz34, @by34, @ag34, @kn34, @ze34, @fk34, @ipi34, @ixv34, @eq34, @ne34, @lda34, @sta34, @bd34⟩
theorem Y35 : type_of% (And.intro @sh35 (And.intro @sz35 (And.intro @by35 (And.intro @ag35 (And.intro @kn35 (And.intro @el35 (And.intro @ze35 (And.intro @ld35 (And.intro @li35 (And.intro @sto35 (And.intro @ix35 (And.intro @ia35 (And.intro @mk35 (And.intro @ixi35 (And.intro @iai35 (And.intro @le35 (And.intro @lr35 (@ln35)))))))))))))))))) := ⟨@sh35, @sz35, @by35, @ag35, @kn35, @el35, @ze35, @ld35, @li35, @sto35, @ix35, @ia35, @mk35, @ixi35, @iai35, @le35, @lr35, @ln35⟩
theorem Y37 : type_of% (And.intro @sh37 (And.intro @sz37 (And.intro @by37 (And.intro @ag37 (And.intro @kn37 (And.intro @ze37 (And.intro @pl37 (And.intro @lda37 (And.intro @sta37 (And.intro @bd37 (And.intro @fi37x0 (And.intro @fi37x1 (@fi37x2))))))))))))) := ⟨@sh37, @sz37, @by37, @ag37, @kn37, @ze37, @pl37, @lda37, @sta37, @bd37, @fi37x0, @fi37x1, @fi37x2⟩
theorem Y39 : type_of% (And.intro @sh39 (And.intro @sz39 (And.intro @by39 (And.intro @ag39 (And.intro @kn39 (And.intro @ze39 (And.intro @pl39 (And.intro @lda39 (And.intro @sta39 (And.intro @bd39 (And.intro @fi39x0 (And.intro @fi39x1 (@fi39x2))))))))))))) := ⟨@sh39, @sz39, @by39, @ag39, @kn39, @ze39, @pl39, @lda39, @sta39, @bd39, @fi39x0, @fi39x1, @fi39x2⟩
theorem Y42 : type_of% (And.intro @sh42 (And.intro @sz42 (And.intro @by42 (And.intro @ag42 (And.intro @kn42 (And.intro @ze42 (And.intro @fk42 (And.intro @pl42 (And.intro @eq42 (And.intro @ne42 (And.intro @lda42 (And.intro @sta42 (And.intro @bd42 (And.intro @fi42x0 (And.intro @fi42x1 (@fi42x2)))))))))))))))) := ⟨@sh42, @sz42, @by42, @ag42, @kn42, @ze42, @fk42, @pl42, @eq42, @ne42, @lda42, @sta42, @bd42, @fi42x0, @fi42x1, @fi42x2⟩
theorem Y44 : type_of% (And.intro @sh44 (And.intro @sz44 (And.intro @by44 (And.intro @ag44 (And.intro @kn44 (And.intro @ze44 (And.intro @fk44 (And.intro @pl44 (And.intro @eq44 (And.intro @ne44 (And.intro @lda44 (And.intro @sta44 (And.intro @bd44 (And.intro @fi44x0 (And.intro @fi44x1 (@fi44x2)))))))))))))))) := ⟨@sh44, @sz44, @by44, @ag44, @kn44, @ze44, @fk44, @pl44, @eq44, @ne44, @lda44, @sta44, @bd44, @fi44x0, @fi44x1, @fi44x2⟩
theorem Y51 : type_of% (And.intro @sh51 (And.intro @sz51 (And.intro @by51 (And.intro @ag51 (And.intro @kn51 (And.intro @ze51 (And.intro @ld51 (And.intro @li51 (@sto51))))))))) := ⟨@sh51, @sz51, @by51, @ag51, @kn51, @ze51, @ld51, @li51, @sto51⟩
theorem Y52 : type_of% (And.intro @sh52 (And.intro @sz52 (And.intro @by52 (And.intro @ag52 (And.intro @kn52 (And.intro @ze52 (And.intro @ld52 (And.intro @li52 (@sto52))))))))) := ⟨@sh52, @sz52, @by52, @ag52, @kn52, @ze52, @ld52, @li52, @sto52⟩
theorem Y68 : type_of% (And.intro @sh68 (And.intro @sz68 (And.intro @by68 (And.intro @ag68 (And.intro @kn68 (And.intro @ze68 (And.intro @fk68 (And.intro @pl68 (And.intro @eq68 (And.intro @ne68 (And.intro @lda68 (And.intro @sta68 (And.intro @bd68 (And.intro @fi68x0 (And.intro @fi68x1 (And.intro @fi68x2 (And.intro @fi68x3 (And.intro @fi68x4 (@fi68x5))))))))))))))))))) := ⟨@sh68, @sz68, @by68, @ag68, @kn68, @ze68, @fk68, @pl68, @eq68, @ne68, @lda68, @sta68, @bd68, @fi68x0, @fi68x1, @fi68x2, @fi68x3, @fi68x4, @fi68x5⟩
theorem Y86 : type_of% (And.intro @sh86 (And.intro @sz86 (And.intro @by86 (And.intro @ag86 (And.intro @kn86 (And.intro @ze86 (And.intro @fk86 (And.intro @pl86 (And.intro @eq86 (And.intro @ne86 (And.intro @lda86 (And.intro @sta86 (And.intro @bd86 (And.intro @fi86x0 (And.intro @fi86x1 (And.intro @fi86x2 (@fi86x3))))))))))))))))) := ⟨@sh86, @sz86, @by86, @ag86, @kn86, @ze86, @fk86, @pl86, @eq86, @ne86, @lda86, @sta86, @bd86, @fi86x0, @fi86x1, @fi86x2, @fi86x3⟩
theorem Y95 : type_of% (And.intro @sh95 (And.intro @sz95 (And.intro @by95 (And.intro @ag95 (And.intro @kn95 (And.intro @ze95 (And.intro @ld95 (And.intro @li95 (@sto95))))))))) := ⟨@sh95, @sz95, @by95, @ag95, @kn95, @ze95, @ld95, @li95, @sto95⟩
theorem Y96 : type_of% (And.intro @sh96 (And.intro @sz96 (And.intro @by96 (And.intro @ag96 (And.intro @kn96 (And.intro @el96 (And.intro @ze96 (And.intro @ld96 (And.intro @li96 (And.intro @sto96 (And.intro @ix96 (And.intro @ia96 (And.intro @mk96 (And.intro @ixi96 (And.intro @iai96 (And.intro @le96 (And.intro @lr96 (@ln96)))))))))))))))))) := ⟨@sh96, @sz96, @by96, @ag96, @kn96, @el96, @ze96, @ld96, @li96, @sto96, @ix96, @ia96, @mk96, @ixi96, @iai96, @le96, @lr96, @ln96⟩
theorem Y116 : type_of% (And.intro @sh116 (And.intro @sz116 (And.intro @by116 (And.intro @ag116 (And.intro @kn116 (And.intro @ze116 (And.intro @fk116 (And.intro @pl116 (And.intro @eq116 (And.intro @ne116 (And.intro @lda116 (And.intro @sta116 (And.intro @bd116 (And.intro @fi116x0 (@fi116x1))))))))))))))) := ⟨@sh116, @sz116, @by116, @ag116, @kn116, @ze116, @fk116, @pl116, @eq116, @ne116, @lda116, @sta116, @bd116, @fi116x0, @fi116x1⟩
theorem Y119 : type_of% (And.intro @sh119 (And.intro @sz119 (And.intro @by119 (And.intro @ag119 (And.intro @kn119 (And.intro @ze119 (And.intro @fk119 (And.intro @pl119 (And.intro @eq119 (And.intro @ne119 (And.intro @lda119 (And.intro @sta119 (And.intro @bd119 (And.intro @fi119x0 (@fi119x1))))))))))))))) := ⟨@sh119, @sz119, @by119, @ag119, @kn119, @ze119, @fk119, @pl119, @eq119, @ne119, @lda119, @sta119, @bd119, @fi119x0, @fi119x1⟩
theorem Y197 : type_of% (And.intro @sh197 (And.intro @sz197 (And.intro @by197 (And.intro @ag197 (And.intro @kn197 (And.intro @ze197 (And.intro @ld197 (And.intro @li197 (@sto197))))))))) := ⟨@sh197, @sz197, @by197, @ag197, @kn197, @ze197, @ld197, @li197, @sto197⟩
theorem Y229 : type_of% (And.intro @sh229 (And.intro @sz229 (And.intro @by229 (And.intro @ag229 (And.intro @kn229 (And.intro @ze229 (And.intro @ipi229 (And.intro @ixv229 (And.intro @lda229 (And.intro @sta229 (@bd229))))))))))) := ⟨@sh229, @sz229, @by229, @ag229, @kn229, @ze229, @ipi229, @ixv229, @lda229, @sta229, @bd229⟩
end Go.Am.R2

/- Volumes: how many sectors, by the program and by the document. -/
namespace Go.Am.R2
open Go.Proofs
set_option maxRecDepth 100000
set_option linter.unusedSimpArgs false
set_option linter.unusedVariables false
variable {σ : List O} {p : List Nat}
def geoV (q : Int) : List V := [.i .i64 (4 * q + 316), .i .i64 (2 * q + 148), .i .i64 2, .i .i64 4, .i .i64 28, .i .i64 (2 * q + 120)]
def geo0 : List V := [.i .i64 0, .i .i64 0, .i .i64 0, .i .i64 0, .i .i64 0, .i .i64 0]
theorem quota_ok {q : Int} (h1 : 4 ≤ q) (h2 : q ≤ 900) : runF cfg 99 [.i .i64 q] σ p = some (.tup [.agg (geoV q), .i .i64 0], σ) := by
  refine run_done rfl rfl Tryz.func99 rfl ?_
  have e1 : (q < 4) = False := eq_false (by omega)
  have e2 : (900 < q) = False := eq_false (by omega)
  simp +contextual (disch := first | omega | exact rfl | decide | exact kpF (by decide) | exact kpT (by decide) | assumption | exact Z2z | exact Z30 | exact Z32 | exact Z31 | exact Z33 | exact Z34 | (simp only [ZI] <;> omega) | simp only [ZK] | (simp only [ZL] <;> assumption)) only [Tryz.f99, ZH, SOp, GOp, ↓Z1c, Int.reduceAdd, Int.reduceSub, Int.reduceMul, Int.reduceNeg, accs, touch, touchM, okPair, Nat.reduceAdd, Nat.reduceLeDiff, Nat.reduceMul, Nat.reduceSub, isV, opA, grdO, grd, Z41, Int.reduceLT, Int.reduceLE, Int.reduceToNat, builtinP, builtinA, changes, fieldAddrA, resA, tupled, ↓reduceIte, Nat.reduceEqDiff, Nat.reduceLT, Z70, Int.reduceEq, Y3, Y68, e1, e2]
  unfold geoV
  rw [show 2 * (28 + (2 * q + 120)) + 20 = 4 * q + 316 by omega, show 28 + (2 * q + 120) = 2 * q + 148 by omega]
theorem quota_no {q : Int} (h : q < 4 ∨ 900 < q) : runF cfg 99 [.i .i64 q] σ p = some (.tup [.agg geo0, .i .i64 1], σ) := by
  refine run_done rfl rfl Tryz.func99 rfl ?_
  by_cases e1 : q < 4
  · simp +contextual (disch := first | omega | exact rfl | decide | exact kpF (by decide) | exact kpT (by decide) | assumption | exact Z2z | exact Z30 | exact Z32 | exact Z31 | exact Z33 | exact Z34 | (simp only [ZI] <;> omega) | simp only [ZK] | (simp only [ZL] <;> assumption)) only [Tryz.f99, ZH, SOp, GOp, ↓Z1c, Int.reduceAdd, Int.reduceSub, Int.reduceMul, Int.reduceNeg, accs, touch, touchM, okPair, Nat.reduceAdd, Nat.reduceLeDiff, Nat.reduceMul, Nat.reduceSub, isV, opA, grdO, grd, Z41, Int.reduceLT, Int.reduceLE, Int.reduceToNat, builtinP, builtinA, changes, fieldAddrA, resA, tupled, ↓reduceIte, Nat.reduceEqDiff, Nat.reduceLT, Z70, Int.reduceEq, Y3, Y68, e1]; rfl
  · have e2 : 900 < q := by omega
    simp +contextual (disch := first | omega | exact rfl | decide | exact kpF (by decide) | exact kpT (by decide) | assumption | exact Z2z | exact Z30 | exact Z32 | exact Z31 | exact Z33 | exact Z34 | (simp only [ZI] <;> omega) | simp only [ZK] | (simp only [ZL] <;> assumption)) only [Tryz.f99, ZH, SOp, GOp, ↓Z1c, Int.reduceAdd, Int.reduceSub, Int.reduceMul, Int.reduceNeg, accs, touch, touchM, okPair, Nat.reduceAdd, Nat.reduceLeDiff, Nat.reduceMul, Nat.reduceSub, isV, opA, grdO, grd, Z41, Int.reduceLT, Int.reduceLE, Int.reduceToNat, builtinP, builtinA, changes, fieldAddrA, resA, tupled, ↓reduceIte, Nat.reduceEqDiff, Nat.reduceLT, Z70, Int.reduceEq, Y3, Y68, e1, e2]; rfl
theorem quota8_ok {q : Int} (h1 : 4 ≤ q) (h2 : q ≤ 900) : runF cfg 65 [.i .i64 q] σ p = some (.tup [.agg (geoV q), .i .i64 0], σ) := by
  refine run_done rfl rfl Tryz.func65 rfl ?_
  have e1 : (q < 4) = False := eq_false (by omega)
  have e2 : (900 < q) = False := eq_false (by omega)
  simp +contextual (disch := first | omega | exact rfl | decide | exact kpF (by decide) | exact kpT (by decide) | assumption | exact Z2z | exact Z30 | exact Z32 | exact Z31 | exact Z33 | exact Z34 | (simp only [ZI] <;> omega) | simp only [ZK] | (simp only [ZL] <;> assumption)) only [Tryz.f65, ZH, SOp, GOp, ↓Z1c, Int.reduceAdd, Int.reduceSub, Int.reduceMul, Int.reduceNeg, accs, touch, touchM, okPair, Nat.reduceAdd, Nat.reduceLeDiff, Nat.reduceMul, Nat.reduceSub, isV, opA, grdO, grd, Z41, Int.reduceLT, Int.reduceLE, Int.reduceToNat, builtinP, builtinA, changes, fieldAddrA, resA, tupled, ↓reduceIte, Nat.reduceEqDiff, Nat.reduceLT, Z70, Int.reduceEq, Y3, Y68, e1, e2]
  unfold geoV
  rw [show 2 * (28 + (2 * q + 120)) + 20 = 4 * q + 316 by omega, show 28 + (2 * q + 120) = 2 * q + 148 by omega]
def sizeOk (n : Int) : Bool := decide (332 ≤ n) && decide (n ≤ 3916) && decide (n % 4 = 0)
def secV (n : Int) : List V := if sizeOk n then [.agg (geoV ((n - 316) / 4)), .i .i64 0] else [.agg geo0, .i .i64 1]
theorem sizeOk_iff {n : Int} : sizeOk n = true ↔ 332 ≤ n ∧ n ≤ 3916 ∧ n % 4 = 0 := by
  simp [sizeOk, and_assoc]
theorem sectors_ok (n : Nat) (hn : n ≤ 140737488355328) : runF cfg 213 [.i .i64 n] σ p = some (.tup (secV n), σ) := by
  refine run_done rfl rfl Tryz.func213 rfl ?_
  have e0 : ((n : Int) < 0) = False := eq_false (by omega)
  have hd : ((n : Int) - 20 - 296).tdiv 4 = ((n : Int) - 316).tdiv 4 := by congr 1; omega
  by_cases hq : 4 ≤ ((n : Int) - 316).tdiv 4 ∧ ((n : Int) - 316).tdiv 4 ≤ 900
  · have hpos : (316 : Int) ≤ n := by
      by_cases h : (316 : Int) ≤ n
      · exact h
      · exfalso
        have h4 : ((n : Int) - 316).tdiv 4 ≤ 0 := by
          rw [show (n : Int) - 316 = -(316 - (n : Int)) by omega, Int.neg_tdiv, Int.tdiv_eq_ediv_of_nonneg (by omega)]; omega
        omega
    have hde : ((n : Int) - 316).tdiv 4 = ((n : Int) - 316) / 4 := Int.tdiv_eq_ediv_of_nonneg (by omega)
    rw [hde] at hq hd
    generalize hqq : ((n : Int) - 316) / 4 = q at *
    have hf := fun (σ : List O) p => quota_ok (σ := σ) (p := p) hq.1 hq.2
    by_cases hs : 4 * q + 316 = (n : Int)
    · have hk : sizeOk n = true := sizeOk_iff.2 (by omega)
      unfold secV
      rw [if_pos hk, hqq]
      unfold geoV at hf ⊢
      simp +contextual (disch := first | omega | exact rfl | decide | exact kpF (by decide) | exact kpT (by decide) | assumption | exact Z2z | exact Z30 | exact Z32 | exact Z31 | exact Z33 | exact Z34 | (simp only [ZI] <;> omega) | simp only [ZK] | (simp only [ZL] <;> assumption)) only [Tryz.f213, ZH, SOp, GOp, ↓Z1c, Int.reduceAdd, Int.reduceSub, Int.reduceMul, Int.reduceNeg, accs, touch, touchM, okPair, Nat.reduceAdd, Nat.reduceLeDiff, Nat.reduceMul, Nat.reduceSub, isV, opA, grdO, grd, Z41, Int.reduceLT, Int.reduceLE, Int.reduceToNat, builtinP, builtinA, changes, fieldAddrA, resA, tupled, ↓reduceIte, Nat.reduceEqDiff, Nat.reduceLT, Z70, Int.reduceEq, Y3, Y23, Y68, e0, hd, hf, hs]
    · have hk : sizeOk n = false := by
        cases h : sizeOk n with
        | false => rfl
        | true => have := sizeOk_iff.1 h; omega
      unfold secV
      rw [hk]
      unfold geoV at hf
      simp +contextual (disch := first | omega | exact rfl | decide | exact kpF (by decide) | exact kpT (by decide) | assumption | exact Z2z | exact Z30 | exact Z32 | exact Z31 | exact Z33 | exact Z34 | (simp only [ZI] <;> omega) | simp only [ZK] | (simp only [ZL] <;> assumption)) only [Tryz.f213, ZH, SOp, GOp, ↓Z1c, Int.reduceAdd, Int.reduceSub, Int.reduceMul, Int.reduceNeg, accs, touch, touchM, okPair, Nat.reduceAdd, Nat.reduceLeDiff, Nat.reduceMul, Nat.reduceSub, isV, opA, grdO, grd, Z41, Int.reduceLT, Int.reduceLE, Int.reduceToNat, builtinP, builtinA, changes, fieldAddrA, resA, tupled, ↓reduceIte, Nat.reduceEqDiff, Nat.reduceLT, Z70, Int.reduceEq, Y3, Y23, Y68, e0, hd, hf, hs]
      rfl
  · have hf := fun (σ : List O) p => quota_no (σ := σ) (p := p) (q := ((n : Int) - 316).tdiv 4) (by omega)
    have hk : sizeOk n = false := by
      cases h : sizeOk n with
      | false => rfl
      | true =>
        have h' := sizeOk_iff.1 h
        rw [Int.tdiv_eq_ediv_of_nonneg (by omega)] at hq
        omega
    have hb : -1000 ≤ ((n : Int) - 316).tdiv 4 ∧ ((n : Int) - 316).tdiv 4 ≤ 140737488355328 := by
      by_cases h : (316 : Int) ≤ n
      · rw [Int.tdiv_eq_ediv_of_nonneg (by omega)]; omega
      · rw [show (n : Int) - 316 = -(316 - (n : Int)) by omega, Int.neg_tdiv, Int.tdiv_eq_ediv_of_nonneg (by omega)]; omega
    unfold secV
    rw [hk]
    simp +contextual (disch := first | omega | exact rfl | decide | exact kpF (by decide) | exact kpT (by decide) | assumption | exact Z2z | exact Z30 | exact Z32 | exact Z31 | exact Z33 | exact Z34 | (simp only [ZI] <;> omega) | simp only [ZK] | (simp only [ZL] <;> assumption)) only [Tryz.f213, ZH, SOp, GOp, ↓Z1c, Int.reduceAdd, Int.reduceSub, Int.reduceMul, Int.reduceNeg, accs, touch, touchM, okPair, Nat.reduceAdd, Nat.reduceLeDiff, Nat.reduceMul, Nat.reduceSub, isV, opA, grdO, grd, Z41, Int.reduceLT, Int.reduceLE, Int.reduceToNat, builtinP, builtinA, changes, fieldAddrA, resA, tupled, ↓reduceIte, Nat.reduceEqDiff, Nat.reduceLT, Z70, Int.reduceEq, Y3, Y23, Y68, e0, hd, hf]
    rfl
theorem sectors8_ok (n : Nat) (hn : n ≤ 140737488355328) : runF cfg 24 [.i .i64 n] σ p = some (.tup (secV n), σ) := by
  refine run_done rfl rfl Tryz.func24 rfl ?_
  simp +contextual (disch := first | omega | exact rfl | decide | exact kpF (by decide) | exact kpT (by decide) | assumption | exact Z2z | exact Z30 | exact Z32 | exact Z31 | exact Z33 | exact Z34 | (simp only [ZI] <;> omega) | simp only [ZK] | (simp only [ZL] <;> assumption)) only [Tryz.f24, ZH, SOp, GOp, ↓Z1c, Int.reduceAdd, Int.reduceSub, Int.reduceMul, Int.reduceNeg, accs, touch, touchM, okPair, Nat.reduceAdd, Nat.reduceLeDiff, Nat.reduceMul, Nat.reduceSub, isV, opA, grdO, grd, Z41, Int.reduceLT, Int.reduceLE, Int.reduceToNat, builtinP, builtinA, changes, fieldAddrA, resA, tupled, ↓reduceIte, Nat.reduceEqDiff, Nat.reduceLT, Z70, Int.reduceEq, Y3, Y68]
  refine Wq.up (fun i s => s.nt = 22 ∧ (∃ L : List O, s.σ = σ ++ (.cells (0 :: p) geo0 :: L)) ∧ s.t.get 0 = some (.i .i64 n) ∧ s.t.get 2 = some (.ptr σ.length (0 :: p) 0) ∧ s.t.get 4 = some (.i .i64 ((i : Int) + 4)) ∧ ∀ j : Nat, j < i → 4 * ((j : Int) + 4) + 316 ≠ n) 897 ?_ ?_
  · refine ⟨rfl, ⟨[], rfl⟩, ?_⟩
    simp +contextual (disch := first | omega | exact rfl | decide | exact kpF (by decide) | exact kpT (by decide) | assumption | exact Z2z | exact Z30 | exact Z32 | exact Z31 | exact Z33 | exact Z34 | (simp only [ZI] <;> omega) | simp only [ZK] | (simp only [ZL] <;> assumption)) only [ZH, SOp, GOp, ↓Z1c, Int.reduceAdd, Int.reduceSub, Int.reduceMul, Int.reduceNeg, accs, touch, touchM, okPair, Nat.reduceAdd, Nat.reduceLeDiff, Nat.reduceMul, Nat.reduceSub, isV, opA, grdO, grd, Z41, Int.reduceLT, Int.reduceLE, Int.reduceToNat, builtinP, builtinA, changes, fieldAddrA, resA, tupled, ↓reduceIte, Nat.reduceEqDiff, Nat.reduceLT, Z70, Int.reduceEq]
    exact fun j hj => absurd hj (by omega)
  · rintro i ⟨t, nt, σ', c⟩ hi ⟨rfl, ⟨L, rfl⟩, g0, g2, g4, hno⟩
    by_cases hlt : i < 897
    · have h1 : (i : Int) + 4 ≤ 900 := by omega
      have hf := fun (σ : List O) p => quota8_ok (σ := σ) (p := p) (q := (i : Int) + 4) (by omega) h1
      unfold geoV at hf
      by_cases he : 4 * ((i : Int) + 4) + 316 = n
      · have hk : sizeOk n = true := sizeOk_iff.2 (by omega)
        have hq : ((n : Int) - 316) / 4 = (i : Int) + 4 := by omega
        unfold secV
        rw [if_pos hk, hq]
        unfold geoV geo0
        simp +contextual (disch := first | omega | exact rfl | decide | exact kpF (by decide) | exact kpT (by decide) | assumption | exact Z2z | exact Z30 | exact Z32 | exact Z31 | exact Z33 | exact Z34 | (simp only [ZI] <;> omega) | simp only [ZK] | (simp only [ZL] <;> assumption)) only [ZH, SOp, GOp, ↓Z1c, Int.reduceAdd, Int.reduceSub, Int.reduceMul, Int.reduceNeg, accs, touch, touchM, okPair, Nat.reduceAdd, Nat.reduceLeDiff, Nat.reduceMul, Nat.reduceSub, isV, opA, grdO, grd, Z41, Int.reduceLT, Int.reduceLE, Int.reduceToNat, builtinP, builtinA, changes, fieldAddrA, resA, tupled, ↓reduceIte, Nat.reduceEqDiff, Nat.reduceLT, Z70, Int.reduceEq, Y3, Y68, g0, g2, g4, h1, hf, he]
      · unfold geo0 at g0 g2 g4 ⊢
        simp +contextual (disch := first | omega | exact rfl | decide | exact kpF (by decide) | exact kpT (by decide) | assumption | exact Z2z | exact Z30 | exact Z32 | exact Z31 | exact Z33 | exact Z34 | (simp only [ZI] <;> omega) | simp only [ZK] | (simp only [ZL] <;> assumption)) only [ZH, SOp, GOp, ↓Z1c, Int.reduceAdd, Int.reduceSub, Int.reduceMul, Int.reduceNeg, accs, touch, touchM, okPair, Nat.reduceAdd, Nat.reduceLeDiff, Nat.reduceMul, Nat.reduceSub, isV, opA, grdO, grd, Z41, Int.reduceLT, Int.reduceLE, Int.reduceToNat, builtinP, builtinA, changes, fieldAddrA, resA, tupled, ↓reduceIte, Nat.reduceEqDiff, Nat.reduceLT, Z70, Int.reduceEq, Y3, Y68, g0, g2, g4, h1, hf, he]
        refine ⟨hlt, ⟨_, rfl⟩, ?_, ?_⟩
        · rw [show (i : Int) + 4 + 1 = ((i + 1 : Nat) : Int) + 4 by omega]
        · intro j hj
          by_cases h : j = i
          · subst h; exact he
          · exact hno j (by omega)
    · have hi' : i = 897 := by omega
      subst hi'
      have hk : sizeOk n = false := by
        cases h : sizeOk n with
        | false => rfl
        | true =>
          have h' := sizeOk_iff.1 h
          have := hno ((n - 332) / 4) (by omega)
          omega
      unfold secV
      rw [hk]
      unfold geo0 at g0 g2 g4 ⊢
      simp +contextual (disch := first | omega | exact rfl | decide | exact kpF (by decide) | exact kpT (by decide) | assumption | exact Z2z | exact Z30 | exact Z32 | exact Z31 | exact Z33 | exact Z34 | (simp only [ZI] <;> omega) | simp only [ZK] | (simp only [ZL] <;> assumption)) only [ZH, SOp, GOp, ↓Z1c, Int.reduceAdd, Int.reduceSub, Int.reduceMul, Int.reduceNeg, accs, touch, touchM, okPair, Nat.reduceAdd, Nat.reduceLeDiff, Nat.reduceMul, Nat.reduceSub, isV, opA, grdO, grd, Z41, Int.reduceLT, Int.reduceLE, Int.reduceToNat, builtinP, builtinA, changes, fieldAddrA, resA, tupled, ↓reduceIte, Nat.reduceEqDiff, Nat.reduceLT, Z70, Int.reduceEq, Y3, Y68, g0, g2, g4, show ((897 : Nat) : Int) + 4 = 901 from rfl]
end Go.Am.R2

/- Slices that stand by themselves. -/
namespace Go.Am.R2
open Go.Proofs
set_option maxRecDepth 100000
set_option linter.unusedSimpArgs false
set_option linter.unusedVariables false
variable {σ : List O} {p : List Nat}
theorem copyv_ok (l : List Int) (h0 : l ≠ []) (hn : l.length ≤ 140737488355328) {x : V} (hx : View σ x (ints .u8 l)) :
    runF cfg 71 [x] σ p = some (.sl σ.length (1 :: p) 0 l.length 1 none, σ ++ [.cells (1 :: p) (ints .u8 l)]) := by
  refine run_done rfl rfl Tryz.func71 rfl ?_
  have hl : l.length ≠ 0 := fun e => h0 (List.eq_nil_of_length_eq_zero e)
  have hx' : ∀ st, appendA cfg 35 σ st (.arr [] 0 true) x = some (.sl σ.length st 0 l.length 1 none, σ ++ [.cells st (ints .u8 l)]) := by
    intro st
    have he := hx.elems
    rw [ints_len] at he
    simp only [appendA, el35, Option.bind_some, he, by5, roomy, take?]
    rw [if_neg hl]
    simp; omega
  simp +contextual (disch := first | omega | exact rfl | decide | exact kpF (by decide) | exact kpT (by decide) | assumption | exact Z2z | exact Z30 | exact Z32 | exact Z31 | exact Z33 | exact Z34 | (simp only [ZI] <;> omega) | simp only [ZK] | (simp only [ZL] <;> assumption)) only [Tryz.f71, ZH, SOp, GOp, ↓Z1c, Int.reduceAdd, Int.reduceSub, Int.reduceMul, Int.reduceNeg, accs, touch, touchM, okPair, Nat.reduceAdd, Nat.reduceLeDiff, Nat.reduceMul, Nat.reduceSub, isV, opA, grdO, grd, Z41, Int.reduceLT, Int.reduceLE, Int.reduceToNat, builtinP, builtinA, changes, fieldAddrA, resA, tupled, ↓reduceIte, Nat.reduceEqDiff, Nat.reduceLT, Z70, Int.reduceEq, buildSliceA, el35, partsAt, DoneQ_keep, sh35, kn35, hx']
theorem copyv_nil {x : V} (hx : View σ x (ints .u8 [])) : runF cfg 71 [x] σ p = some (.arr [] 0 true, σ) := by
  refine run_done rfl rfl Tryz.func71 rfl ?_
  have hx' : ∀ st, appendA cfg 35 σ st (.arr [] 0 true) x = some (.arr [] 0 true, σ) := by
    intro st
    have he := hx.elems
    rw [ints_len] at he
    simp only [appendA, el35, Option.bind_some, he, by5, roomy, take?, List.length_nil, if_true]
  simp +contextual (disch := first | omega | exact rfl | decide | exact kpF (by decide) | exact kpT (by decide) | assumption | exact Z2z | exact Z30 | exact Z32 | exact Z31 | exact Z33 | exact Z34 | (simp only [ZI] <;> omega) | simp only [ZK] | (simp only [ZL] <;> assumption)) only [Tryz.f71, ZH, SOp, GOp, ↓Z1c, Int.reduceAdd, Int.reduceSub, Int.reduceMul, Int.reduceNeg, accs, touch, touchM, okPair, Nat.reduceAdd, Nat.reduceLeDiff, Nat.reduceMul, Nat.reduceSub, isV, opA, grdO, grd, Z41, Int.reduceLT, Int.reduceLE, Int.reduceToNat, builtinP, builtinA, changes, fieldAddrA, resA, tupled, ↓reduceIte, Nat.reduceEqDiff, Nat.reduceLT, Z70, Int.reduceEq, buildSliceA, el35, partsAt, DoneQ_keep, sh35, kn35, hx']
theorem samev_ok (l : List Int) {x y : V} (hx : View σ x (ints .u8 l)) (hy : View σ y (ints .u8 l)) : runF cfg 98 [x, y] σ p = some (.b true, σ) := by
  refine run_done rfl rfl Tryz.func98 rfl ?_
  simp +contextual (disch := first | omega | exact rfl | decide | exact kpF (by decide) | exact kpT (by decide) | assumption | exact Z2z | exact Z30 | exact Z32 | exact Z31 | exact Z33 | exact Z34 | (simp only [ZI] <;> omega) | simp only [ZK] | (simp only [ZL] <;> assumption)) only [Tryz.f98, ZH, SOp, GOp, ↓Z1c, Int.reduceAdd, Int.reduceSub, Int.reduceMul, Int.reduceNeg, accs, touch, touchM, okPair, Nat.reduceAdd, Nat.reduceLeDiff, Nat.reduceMul, Nat.reduceSub, isV, opA, grdO, grd, Z41, Int.reduceLT, Int.reduceLE, Int.reduceToNat, builtinP, builtinA, changes, fieldAddrA, resA, tupled, ↓reduceIte, Nat.reduceEqDiff, Nat.reduceLT, Z70, Int.reduceEq, sh9, hx.str sh35 sh5 sh9, hy.str sh35 sh5 sh9]
def SV (z : Nat) (x : V) (n : Nat) (els : List V) : Prop := els.length = n * z ∧ (x = .nils ∧ n = 0 ∨ ∃ cl, x = .arr els n cl)
def cpS (n : Nat) (els : List V) : V := if n = 0 then .arr [] 0 true else .arr els n false
theorem cpS_0 {n : Nat} {els : List V} (h : n = 0) : cpS n els = .arr [] 0 true := if_pos h
theorem SV.one {z n : Nat} {x : V} {els : List V} (h : SV z x n els) : x.one = true := by
  obtain ⟨_, ⟨rfl, _⟩ | ⟨cl, rfl⟩⟩ := h <;> rfl
theorem SV.len {C : Cfg} {t e : TypeId} {z n : Nat} {x : V} {els : List V} (h : SV z x n els) (hs : C.shape t = .slice e) (σ : List O) : lenA C t σ x = some (.i .i64 n) := by
  obtain ⟨_, ⟨rfl, rfl⟩ | ⟨cl, rfl⟩⟩ := h
  · exact len_nils hs
  · exact len_arr hs
theorem SV.cp {z n : Nat} {x : V} {els : List V} (h : SV z x n els) : SV z (cpS n els) n els := by
  refine ⟨h.1, .inr ?_⟩
  unfold cpS
  split
  · rename_i h0
    subst h0
    exact ⟨true, by rw [List.eq_nil_of_length_eq_zero (l := els) (by simpa using h.1)]⟩
  · exact ⟨false, rfl⟩
theorem SV.at {C : Cfg} {t e : TypeId} {z n : Nat} {x : V} {els : List V} (h : SV (z + 1) x n els) (hs : C.shape t = .slice e) (hz : C.size e = some (z + 1)) {i : Nat} (hi : i < n) : indexAddrA C t x (.i .i64 i) = some (.iptr (els.drop (i * (z + 1)))) := by
  obtain ⟨_, ⟨rfl, rfl⟩ | ⟨cl, rfl⟩⟩ := h
  · omega
  · have := iai (C := C) (t := t) (cs := els) (n := n) (cl := cl) (k := .i64) (i := (i : Int)) hs hz (by omega) (by omega)
    simpa using this
theorem load_iagg {C : Cfg} {t : TypeId} {n : Nat} {cs : List V} (ha : C.isAgg t = some true) (hz : C.size t = some n) : loadA C t σ (.iptr cs) = (take? cs 0 n).map V.agg := by
  simp [loadA, cellsAt, ha, hz]
theorem one_cpS {n : Nat} {els : List V} : (cpS n els).one = true := by unfold cpS; split <;> rfl
theorem elems_SV {z n : Nat} {x : V} {els : List V} (h : SV z x n els) : elems z σ x = some (n, els) := by
  obtain ⟨h1, ⟨rfl, rfl⟩ | ⟨cl, rfl⟩⟩ := h
  · rw [List.eq_nil_of_length_eq_zero (l := els) (by simpa using h1)]; rfl
  · have : List.take (n * z) els = els := by rw [← h1, List.take_length]
    simp [elems, take?, h1, this]
theorem app_none {C : Cfg} {t e : TypeId} {z : Nat} {zv x : V} {st' : List Nat} (he : C.elem t = some (e, z, zv)) (hx : elems z σ x = some (0, [])) : appendA C t σ st' (.arr [] 0 true) x = some (.arr [] 0 true, σ) := by
  simp [appendA, he, hx]
theorem frz1_sl {base d r n z : Nat} {st : List Nat} {els : List V} {τ : List O} (hr : base ≤ r) (h : rowAt τ r st = some els) (hl : els.length = n * z) (h0 : 0 < n) (hf : ∀ c ∈ els, c.fk ≠ none) : freeze1 base τ (d + 1) (.sl r st 0 n z none) = cpS n els := by
  have hm : els.map (freeze1 base τ d) = els := by
    have : els.map (freeze1 base τ d) = els.map id := List.map_congr_left fun c hc => by
      have := hf c hc
      cases c <;> simp [V.fk] at this <;> cases d <;> rfl
    rw [this, List.map_id]
  unfold cpS
  simp only [freeze1, if_pos hr, h]
  rw [if_neg (by omega), if_neg (by omega), List.drop_zero, ← hl, List.take_length, hm]; rfl
theorem app_some {C : Cfg} {t e : TypeId} {z n B : Nat} {zv x : V} {els : List V} {st' : List Nat} (he : C.elem t = some (e, z, zv)) (hb : C.bytes e = B) (hx : SV z x n els) (hr : n * B ≤ 140737488355328) (h0 : n ≠ 0) : appendA C t σ st' (.arr [] 0 true) x = some (.sl σ.length st' 0 n z none, σ ++ [.cells st' els]) := by
  obtain ⟨m, rfl⟩ : ∃ m, n = m + 1 := ⟨n - 1, by omega⟩
  exact app_empty he hb (elems_SV hx) hr
theorem SV.view {x : V} {cs : List V} {n : Nat} (h : SV 1 x n cs) (σ : List O) : View σ x cs := by
  obtain ⟨h1, ⟨rfl, rfl⟩ | ⟨cl, rfl⟩⟩ := h
  · exact List.eq_nil_of_length_eq_zero (by simpa using h1)
  · rw [Nat.mul_one] at h1; subst h1; exact View.arr σ cs cl
theorem ints_fk {k : IntKind} {l : List Int} : ∀ c ∈ ints k l, c.fk ≠ none := by
  intro c hc
  obtain ⟨x, _, rfl⟩ := List.mem_map.1 hc
  simp [fk_i]
theorem frz1_cpS {base d n : Nat} {τ : List O} {els : List V} : freeze1 base τ d (cpS n els) = cpS n els := by
  unfold cpS; split <;> exact frz1_arr
theorem take_el {z n i : Nat} {els : List V} (hl : els.length = n * z) (hi : i < n) : take? (els.drop (i * z)) 0 z = some ((els.drop (i * z)).take z) := by
  have : i * z + z ≤ n * z := by rw [← Nat.succ_mul]; exact Nat.mul_le_mul_right _ hi
  simp only [take?, List.drop_zero, Nat.zero_add, List.length_drop]
  rw [if_pos (by omega)]
theorem SCall_fnC {C : Cfg} {s : St} {K : St → Prop} {d : Option Nat} {f : Nat} {v : V} {args : List V} : SCall C p d (.fn f [] [v]) args s K = OptQ (runF C f (args ++ [v]) s.σ (s.c :: p)) fun r => K ((⟨s.t, s.nt, r.2, s.c + 1⟩ : St).put d r.1) := rfl
theorem all_one_fk {us : List V} (h : ∀ u ∈ us, u.fk ≠ none) : us.all V.one = true := by
  rw [List.all_eq_true]
  intro u hu
  have := h u hu
  cases u <;> simp [V.fk] at this <;> rfl
end Go.Am.R2

/- Volumes: copied. -/
namespace Go.Am.R2
open Go.Proofs
set_option maxRecDepth 100000
set_option linter.unusedSimpArgs false
set_option linter.unusedVariables false
variable {σ : List O} {p : List Nat}
structure DiskR where
  sec : V
  ns : Nat
  ses : List V
  cac : V
  nc : Nat
  ces : List V
  fuse : Int
  down : Bool
structure DiskR.ok (d : DiskR) : Prop where
  s : SV 130 d.sec d.ns d.ses
  c : SV 129 d.cac d.nc d.ces
  sf : ∀ i, i < d.ns → ((d.ses.drop (i * 130)).take 130).map V.fk = (List.replicate 128 (.i .u8) ++ [.b, .b] : List Fk).map some
  cf : ∀ i, i < d.nc → ((d.ces.drop (i * 129)).take 129).map V.fk = ([(.i .i64)] ++ List.replicate 128 (.i .u8) : List Fk).map some
  sb : d.ns * 130 ≤ 140737488355328
  cb : d.nc * 136 ≤ 140737488355328
def DiskR.v (d : DiskR) : List V := [d.sec, d.cac, .i .i64 d.fuse, .b d.down]
def DiskR.cp (d : DiskR) : DiskR := { d with sec := cpS d.ns d.ses, cac := cpS d.nc d.ces }
theorem DiskR.ok.cp {d : DiskR} (h : d.ok) : d.cp.ok := ⟨h.s.cp, h.c.cp, h.sf, h.cf, h.sb, h.cb⟩
theorem fks {z n : Nat} {els : List V} {fk : List Fk} (hl : els.length = n * z) (hz : fk.length = z) (h : ∀ i, i < n → ((els.drop (i * z)).take z).map V.fk = fk.map some) : ∀ c ∈ els, c.fk ≠ none := by
  intro c hc
  obtain ⟨j, hj, rfl⟩ := List.mem_iff_getElem.1 hc
  rcases Nat.eq_zero_or_pos z with h0 | hpos
  · subst h0; omega
  · have hq : j / z < n := by rw [Nat.div_lt_iff_lt_mul hpos, ← hl]; exact hj
    have := congrArg (fun l => l[j % z]?) (h (j / z) hq)
    have hm : j % z < z := Nat.mod_lt _ hpos
    have he : j / z * z + j % z = j := Nat.div_add_mod' j z
    simp only [List.getElem?_map, List.getElem?_take, if_pos hm, List.getElem?_drop, he, List.getElem?_eq_getElem hj, Option.map_some, List.getElem?_eq_getElem (show j % z < fk.length by omega)] at this
    intro hn
    rw [hn] at this
    cases this
theorem copy_disk (d : DiskR) (h : d.ok) : runF cfg 30 [.agg d.v] σ p = some (.agg d.cp.v, σ) := by
  have hfs := fks h.s.1 (by decide) h.sf
  have hfc := fks h.c.1 (by decide) h.cf
  refine run_done rfl rfl Tryz.func30 rfl ?_
  have o1 := h.s.one
  have o2 := h.c.one
  have m41 : ∀ (τ : List O) st, buildSliceA cfg 27 0 [] τ st = some (.arr [] 0 true, τ) := fun τ st => by simp [buildSliceA, el27]
  have m42 : ∀ (τ : List O) st, buildSliceA cfg 28 0 [] τ st = some (.arr [] 0 true, τ) := fun τ st => by simp [buildSliceA, el28]
  by_cases hs : d.ns = 0
  · have a1 : ∀ (τ : List O) st, appendA cfg 27 τ st (.arr [] 0 true) d.sec = some (.arr [] 0 true, τ) := fun τ st => app_none el27 (by
      rw [elems_SV h.s, hs, List.eq_nil_of_length_eq_zero (l := d.ses) (by have := h.s.1; rw [hs] at this; simpa using this)])
    by_cases hc : d.nc = 0
    · have a2 : ∀ (τ : List O) st, appendA cfg 28 τ st (.arr [] 0 true) d.cac = some (.arr [] 0 true, τ) := fun τ st => app_none el28 (by
        rw [elems_SV h.c, hc, List.eq_nil_of_length_eq_zero (l := d.ces) (by have := h.c.1; rw [hc] at this; simpa using this)])
      simp +contextual (disch := first | omega | exact rfl | decide | exact kpF (by decide) | exact kpT (by decide) | assumption | exact Z2z | exact Z30 | exact Z32 | exact Z31 | exact Z33 | exact Z34 | (simp only [ZI] <;> omega) | simp only [ZK] | (simp only [ZL] <;> assumption)) only [Tryz.f30, ZH, SOp, GOp, ↓Z1c, Int.reduceAdd, Int.reduceSub, Int.reduceMul, Int.reduceNeg, accs, touch, touchM, okPair, Nat.reduceAdd, Nat.reduceLeDiff, Nat.reduceMul, Nat.reduceSub, isV, opA, grdO, grd, Z41, Int.reduceLT, Int.reduceLE, Int.reduceToNat, builtinP, builtinA, changes, fieldAddrA, resA, tupled, ↓reduceIte, Nat.reduceEqDiff, Nat.reduceLT, Z70, Int.reduceEq, Y3, Y4, Y27, Y28, Y30, Y116, DiskR.v, DiskR.cp, a1, a2, m41, m42, o1, o2]
      rw [cpS_0 hs, cpS_0 hc]
    · have a2 : ∀ (τ : List O) st, appendA cfg 28 τ st (.arr [] 0 true) d.cac = _ := fun τ st => app_some el28 by116 h.c h.cb hc
      simp +contextual (disch := first | omega | exact rfl | decide | exact kpF (by decide) | exact kpT (by decide) | assumption | exact Z2z | exact Z30 | exact Z32 | exact Z31 | exact Z33 | exact Z34 | (simp only [ZI] <;> omega) | simp only [ZK] | (simp only [ZL] <;> assumption)) only [Tryz.f30, ZH, SOp, GOp, ↓Z1c, Int.reduceAdd, Int.reduceSub, Int.reduceMul, Int.reduceNeg, accs, touch, touchM, okPair, Nat.reduceAdd, Nat.reduceLeDiff, Nat.reduceMul, Nat.reduceSub, isV, opA, grdO, grd, Z41, Int.reduceLT, Int.reduceLE, Int.reduceToNat, builtinP, builtinA, changes, fieldAddrA, resA, tupled, ↓reduceIte, Nat.reduceEqDiff, Nat.reduceLT, Z70, Int.reduceEq, Y3, Y4, Y27, Y28, Y30, Y116, DiskR.v, DiskR.cp, a1, a2, m41, m42, o1, o2]
      rw [frz1_sl (els := d.ces) (by omega) (by rw [rowAt_app]; simp [rowAt]) h.c.1 (by omega) hfc]
      rw [cpS_0 hs]
  · have a1 : ∀ (τ : List O) st, appendA cfg 27 τ st (.arr [] 0 true) d.sec = _ := fun τ st => app_some el27 by145 h.s h.sb hs
    by_cases hc : d.nc = 0
    · have a2 : ∀ (τ : List O) st, appendA cfg 28 τ st (.arr [] 0 true) d.cac = some (.arr [] 0 true, τ) := fun τ st => app_none el28 (by
        rw [elems_SV h.c, hc, List.eq_nil_of_length_eq_zero (l := d.ces) (by have := h.c.1; rw [hc] at this; simpa using this)])
      simp +contextual (disch := first | omega | exact rfl | decide | exact kpF (by decide) | exact kpT (by decide) | assumption | exact Z2z | exact Z30 | exact Z32 | exact Z31 | exact Z33 | exact Z34 | (simp only [ZI] <;> omega) | simp only [ZK] | (simp only [ZL] <;> assumption)) only [Tryz.f30, ZH, SOp, GOp, ↓Z1c, Int.reduceAdd, Int.reduceSub, Int.reduceMul, Int.reduceNeg, accs, touch, touchM, okPair, Nat.reduceAdd, Nat.reduceLeDiff, Nat.reduceMul, Nat.reduceSub, isV, opA, grdO, grd, Z41, Int.reduceLT, Int.reduceLE, Int.reduceToNat, builtinP, builtinA, changes, fieldAddrA, resA, tupled, ↓reduceIte, Nat.reduceEqDiff, Nat.reduceLT, Z70, Int.reduceEq, Y3, Y4, Y27, Y28, Y30, Y116, DiskR.v, DiskR.cp, a1, a2, m41, m42, o1, o2]
      rw [frz1_sl (els := d.ses) (by omega) (by rw [rowAt_app]; simp [rowAt]) h.s.1 (by omega) hfs]
      rw [cpS_0 hc]
    · have a2 : ∀ (τ : List O) st, appendA cfg 28 τ st (.arr [] 0 true) d.cac = _ := fun τ st => app_some el28 by116 h.c h.cb hc
      simp +contextual (disch := first | omega | exact rfl | decide | exact kpF (by decide) | exact kpT (by decide) | assumption | exact Z2z | exact Z30 | exact Z32 | exact Z31 | exact Z33 | exact Z34 | (simp only [ZI] <;> omega) | simp only [ZK] | (simp only [ZL] <;> assumption)) only [Tryz.f30, ZH, SOp, GOp, ↓Z1c, Int.reduceAdd, Int.reduceSub, Int.reduceMul, Int.reduceNeg, accs, touch, touchM, okPair, Nat.reduceAdd, Nat.reduceLeDiff, Nat.reduceMul, Nat.reduceSub, isV, opA, grdO, grd, Z41, Int.reduceLT, Int.reduceLE, Int.reduceToNat, builtinP, builtinA, changes, fieldAddrA, resA, tupled, ↓reduceIte, Nat.reduceEqDiff, Nat.reduceLT, Z70, Int.reduceEq, Y3, Y4, Y27, Y28, Y30, Y116, DiskR.v, DiskR.cp, a1, a2, m41, m42, o1, o2]
      rw [frz1_sl (els := d.ses) (by omega) (by rw [rowAt_app]; simp [rowAt]) h.s.1 (by omega) hfs]
      rw [frz1_sl (els := d.ces) (by omega) (by rw [rowAt_app]; simp [rowAt]) h.c.1 (by omega) hfc]
end Go.Am.R2

/- Volumes: copied whole. -/
namespace Go.Am.R2
open Go.Proofs
set_option maxRecDepth 100000
set_option linter.unusedSimpArgs false
set_option linter.unusedVariables false
variable {σ : List O} {p : List Nat}
def prV (l : List (Int × Int)) : List V := l.flatMap fun x => [.i .i64 x.1, .i .i64 x.2]
theorem prV_len (l : List (Int × Int)) : (prV l).length = l.length * 2 := by
  induction l with
  | nil => rfl
  | cons a l ih => rw [prV, List.flatMap_cons, List.length_append, ← prV, ih]; simp; omega
theorem prV_cons (a : Int × Int) (l : List (Int × Int)) : prV (a :: l) = .i .i64 a.1 :: .i .i64 a.2 :: prV l := rfl
theorem prV_fk (l : List (Int × Int)) : ∀ c ∈ prV l, c.fk ≠ none := by
  intro c hc
  obtain ⟨x, _, hx⟩ := List.mem_flatMap.1 hc
  simp at hx
  rcases hx with rfl | rfl <;> simp [fk_i]
theorem prV_drop (l : List (Int × Int)) : ∀ (i : Nat) (h : i < l.length), (prV l).drop (i * 2) = .i .i64 l[i].1 :: .i .i64 l[i].2 :: prV (l.drop (i + 1)) := by
  induction l with
  | nil => intro i h; simp at h
  | cons a l ih =>
    intro i h
    cases i with
    | zero => rfl
    | succ i =>
      have := ih i (by simpa using h)
      rw [show (i + 1) * 2 = i * 2 + 1 + 1 by omega, prV_cons, List.drop_succ_cons, List.drop_succ_cons, this]
      simp
structure RemapR where
  gen : Int
  prs : V
  pl : List (Int × Int)
structure RemapR.ok (m : RemapR) : Prop where
  s : SV 2 m.prs m.pl.length (prV m.pl)
  b : m.pl.length * 16 ≤ 140737488355328
def RemapR.v (m : RemapR) : List V := [.i .i64 m.gen, m.prs]
def RemapR.cp (m : RemapR) : RemapR := { m with prs := cpS m.pl.length (prV m.pl) }
theorem RemapR.ok.cp {m : RemapR} (h : m.ok) : m.cp.ok := ⟨h.s.cp, h.b⟩
theorem copy_remap (m : RemapR) (h : m.ok) : runF cfg 31 [.agg m.v] σ p = some (.agg m.cp.v, σ) := by
  refine run_done rfl rfl Tryz.func31 rfl ?_
  have o1 := h.s.one
  have m45 : ∀ (τ : List O) st, buildSliceA cfg 31 0 [] τ st = some (.arr [] 0 true, τ) := fun τ st => by simp [buildSliceA, el31]
  by_cases hs : m.pl.length = 0
  · have a1 : ∀ (τ : List O) st, appendA cfg 31 τ st (.arr [] 0 true) m.prs = some (.arr [] 0 true, τ) := fun τ st => app_none el31 (by
      rw [elems_SV h.s, hs, List.eq_nil_of_length_eq_zero (l := prV m.pl) (by have := h.s.1; rw [hs] at this; simpa using this)])
    simp +contextual (disch := first | omega | exact rfl | decide | exact kpF (by decide) | exact kpT (by decide) | assumption | exact Z2z | exact Z30 | exact Z32 | exact Z31 | exact Z33 | exact Z34 | (simp only [ZI] <;> omega) | simp only [ZK] | (simp only [ZL] <;> assumption)) only [Tryz.f31, ZH, SOp, GOp, ↓Z1c, Int.reduceAdd, Int.reduceSub, Int.reduceMul, Int.reduceNeg, accs, touch, touchM, okPair, Nat.reduceAdd, Nat.reduceLeDiff, Nat.reduceMul, Nat.reduceSub, isV, opA, grdO, grd, Z41, Int.reduceLT, Int.reduceLE, Int.reduceToNat, builtinP, builtinA, changes, fieldAddrA, resA, tupled, ↓reduceIte, Nat.reduceEqDiff, Nat.reduceLT, Z70, Int.reduceEq, Y3, Y31, Y33, Y119, RemapR.v, RemapR.cp, a1, m45, o1]
    rw [cpS_0 hs]
  · have a1 : ∀ (τ : List O) st, appendA cfg 31 τ st (.arr [] 0 true) m.prs = _ := fun τ st => app_some el31 by119 h.s h.b hs
    simp +contextual (disch := first | omega | exact rfl | decide | exact kpF (by decide) | exact kpT (by decide) | assumption | exact Z2z | exact Z30 | exact Z32 | exact Z31 | exact Z33 | exact Z34 | (simp only [ZI] <;> omega) | simp only [ZK] | (simp only [ZL] <;> assumption)) only [Tryz.f31, ZH, SOp, GOp, ↓Z1c, Int.reduceAdd, Int.reduceSub, Int.reduceMul, Int.reduceNeg, accs, touch, touchM, okPair, Nat.reduceAdd, Nat.reduceLeDiff, Nat.reduceMul, Nat.reduceSub, isV, opA, grdO, grd, Z41, Int.reduceLT, Int.reduceLE, Int.reduceToNat, builtinP, builtinA, changes, fieldAddrA, resA, tupled, ↓reduceIte, Nat.reduceEqDiff, Nat.reduceLT, Z70, Int.reduceEq, Y3, Y31, Y33, Y119, RemapR.v, RemapR.cp, a1, m45, o1]
    rw [frz1_sl (els := prV m.pl) (by omega) (by rw [rowAt_app]; simp [rowAt]) h.s.1 (by omega) (prV_fk _)]
structure SpaceR where
  at0 : Int
  at1 : Int
  size : Int
  st : V
  sl : List Int
structure SpaceR.ok (s : SpaceR) : Prop where
  sv : SV 1 s.st s.sl.length (ints .u8 s.sl)
  h : ∀ x ∈ s.sl, 0 ≤ x ∧ x ≤ 255
  b : s.sl.length ≤ 140737488355328
def SpaceR.v (s : SpaceR) : List V := [.i .i64 s.at0, .i .i64 s.at1, .i .i64 s.size, s.st]
def SpaceR.cp (s : SpaceR) : SpaceR := { s with st := cpS s.sl.length (ints .u8 s.sl) }
theorem SpaceR.ok.cp {s : SpaceR} (h : s.ok) : s.cp.ok := ⟨h.sv.cp, h.h, h.b⟩
theorem copy_space (s : SpaceR) (h : s.ok) : runF cfg 32 [.agg s.v] σ p = some (.agg s.cp.v, σ) := by
  refine run_done rfl rfl Tryz.func32 rfl ?_
  have o1 := h.sv.one
  by_cases hs : s.sl.length = 0
  · have hn : s.sl = [] := List.eq_nil_of_length_eq_zero hs
    have c1 : ∀ (τ : List O) q, runF cfg 71 [s.st] τ q = some (.arr [] 0 true, τ) := fun τ q => copyv_nil (by have := h.sv.view τ; rwa [hn] at this)
    simp +contextual (disch := first | omega | exact rfl | decide | exact kpF (by decide) | exact kpT (by decide) | assumption | exact Z2z | exact Z30 | exact Z32 | exact Z31 | exact Z33 | exact Z34 | (simp only [ZI] <;> omega) | simp only [ZK] | (simp only [ZL] <;> assumption)) only [Tryz.f32, ZH, SOp, GOp, ↓Z1c, Int.reduceAdd, Int.reduceSub, Int.reduceMul, Int.reduceNeg, accs, touch, touchM, okPair, Nat.reduceAdd, Nat.reduceLeDiff, Nat.reduceMul, Nat.reduceSub, isV, opA, grdO, grd, Z41, Int.reduceLT, Int.reduceLE, Int.reduceToNat, builtinP, builtinA, changes, fieldAddrA, resA, tupled, ↓reduceIte, Nat.reduceEqDiff, Nat.reduceLT, Z70, Int.reduceEq, Y3, Y34, Y35, Y37, SpaceR.v, SpaceR.cp, c1, o1]
    rw [cpS_0 hs]
  · have c1 := fun (τ : List O) q => copyv_ok (σ := τ) (p := q) (x := s.st) s.sl (fun e => hs (by rw [e]; rfl)) h.b (h.sv.view τ)
    simp +contextual (disch := first | omega | exact rfl | decide | exact kpF (by decide) | exact kpT (by decide) | assumption | exact Z2z | exact Z30 | exact Z32 | exact Z31 | exact Z33 | exact Z34 | (simp only [ZI] <;> omega) | simp only [ZK] | (simp only [ZL] <;> assumption)) only [Tryz.f32, ZH, SOp, GOp, ↓Z1c, Int.reduceAdd, Int.reduceSub, Int.reduceMul, Int.reduceNeg, accs, touch, touchM, okPair, Nat.reduceAdd, Nat.reduceLeDiff, Nat.reduceMul, Nat.reduceSub, isV, opA, grdO, grd, Z41, Int.reduceLT, Int.reduceLE, Int.reduceToNat, builtinP, builtinA, changes, fieldAddrA, resA, tupled, ↓reduceIte, Nat.reduceEqDiff, Nat.reduceLT, Z70, Int.reduceEq, Y3, Y34, Y35, Y37, SpaceR.v, SpaceR.cp, c1, o1]
    rw [frz1_sl (els := ints .u8 s.sl) (by omega) (by rw [rowAt_app]; simp [rowAt]) h.sv.1 (by omega) ints_fk]
structure VolR where
  d : DiskR
  m : RemapR
  s : SpaceR
structure VolR.ok (v : VolR) : Prop where
  d : v.d.ok
  m : v.m.ok
  s : v.s.ok
def VolR.v (v : VolR) : List V := [v.d.sec, v.d.cac, .i .i64 v.d.fuse, .b v.d.down, .i .i64 v.m.gen, v.m.prs, .i .i64 v.s.at0, .i .i64 v.s.at1, .i .i64 v.s.size, v.s.st]
theorem tk04 {a0 a1 a2 a3 a4 a5 a6 a7 a8 a9 : V} : take? [a0, a1, a2, a3, a4, a5, a6, a7, a8, a9] 0 4 = some [a0, a1, a2, a3] := rfl
theorem tk42 {a0 a1 a2 a3 a4 a5 a6 a7 a8 a9 : V} : take? [a0, a1, a2, a3, a4, a5, a6, a7, a8, a9] 4 2 = some [a4, a5] := rfl
theorem tk64 {a0 a1 a2 a3 a4 a5 a6 a7 a8 a9 : V} : take? [a0, a1, a2, a3, a4, a5, a6, a7, a8, a9] 6 4 = some [a6, a7, a8, a9] := rfl
theorem tk62 {a0 a1 a2 a3 a4 a5 a6 a7 a8 a9 : V} : take? [a0, a1, a2, a3, a4, a5, a6, a7, a8, a9] 6 2 = some [a6, a7] := rfl
theorem spl04 {a0 a1 a2 a3 a4 a5 a6 a7 a8 a9 b0 b1 b2 b3 : V} : splice [a0, a1, a2, a3, a4, a5, a6, a7, a8, a9] 0 [b0, b1, b2, b3] = [b0, b1, b2, b3, a4, a5, a6, a7, a8, a9] := rfl
theorem spl42 {a0 a1 a2 a3 a4 a5 a6 a7 a8 a9 b0 b1 : V} : splice [a0, a1, a2, a3, a4, a5, a6, a7, a8, a9] 4 [b0, b1] = [a0, a1, a2, a3, b0, b1, a6, a7, a8, a9] := rfl
theorem spl64 {a0 a1 a2 a3 a4 a5 a6 a7 a8 a9 b0 b1 b2 b3 : V} : splice [a0, a1, a2, a3, a4, a5, a6, a7, a8, a9] 6 [b0, b1, b2, b3] = [a0, a1, a2, a3, a4, a5, b0, b1, b2, b3] := rfl
def VolR.cp (v : VolR) : VolR := ⟨v.d.cp, v.m.cp, v.s.cp⟩
theorem VolR.ok.cp {v : VolR} (h : v.ok) : v.cp.ok := ⟨h.d.cp, h.m.cp, h.s.cp⟩
theorem copy_vol (v : VolR) (h : v.ok) : runF cfg 11 [.agg v.v] σ p = some (.agg v.cp.v, σ) := by
  refine run_done rfl rfl Tryz.func11 rfl ?_
  have o1 := h.d.s.one
  have o2 := h.d.c.one
  have o3 := h.m.s.one
  have o4 := h.s.sv.one
  have c1 := fun (τ : List O) q => copy_disk (σ := τ) (p := q) v.d h.d
  have c2 := fun (τ : List O) q => copy_remap (σ := τ) (p := q) v.m h.m
  have c3 := fun (τ : List O) q => copy_space (σ := τ) (p := q) v.s h.s
  have n1 := h.d.s.cp.one
  have n2 := h.d.c.cp.one
  have n3 := h.m.s.cp.one
  have n4 := h.s.sv.cp.one
  have nA : ((cpS v.d.ns v.d.ses).one && (cpS v.d.nc v.d.ces).one) = true := by rw [one_cpS, one_cpS]; rfl
  have nB : ((cpS v.d.ns v.d.ses).one && ((cpS v.d.nc v.d.ces).one && ((cpS v.m.pl.length (prV v.m.pl)).one && (cpS v.s.sl.length (ints .u8 v.s.sl)).one))) = true := by rw [one_cpS, one_cpS, one_cpS, one_cpS]; rfl
  simp only [DiskR.v, DiskR.cp, RemapR.v, RemapR.cp, SpaceR.v, SpaceR.cp] at c1 c2 c3
  simp +contextual (disch := first | omega | exact rfl | decide | exact kpF (by decide) | exact kpT (by decide) | assumption | exact Z2z | exact Z30 | exact Z32 | exact Z31 | exact Z33 | exact Z34 | (simp only [ZI] <;> omega) | simp only [ZK] | (simp only [ZL] <;> assumption)) only [Tryz.f11, ZH, SOp, GOp, ↓Z1c, Int.reduceAdd, Int.reduceSub, Int.reduceMul, Int.reduceNeg, accs, touch, touchM, okPair, Nat.reduceAdd, Nat.reduceLeDiff, Nat.reduceMul, Nat.reduceSub, isV, opA, grdO, grd, Z41, Int.reduceLT, Int.reduceLE, Int.reduceToNat, builtinP, builtinA, changes, fieldAddrA, resA, tupled, ↓reduceIte, Nat.reduceEqDiff, Nat.reduceLT, Z70, Int.reduceEq, dr11x1, Y3, Y4, Y27, Y28, Y30, Y31, Y33, Y34, Y35, Y37, Y39, Y116, Y119, VolR.v, VolR.cp, DiskR.cp, RemapR.cp, SpaceR.cp, c1, c2, c3, o1, o2, o3, o4, n1, n2, n3, n4, tk04, tk42, tk64, spl04, spl42, spl64, frz1_cpS]
end Go.Am.R2

/- Volumes: the same as their copies. -/
namespace Go.Am.R2
open Go.Proofs
set_option maxRecDepth 100000
set_option linter.unusedSimpArgs false
set_option linter.unusedVariables false
variable {σ : List O} {p : List Nat}
theorem same_disk (d e : DiskR) (hd : d.ok) (he : e.ok) (h1 : e.ns = d.ns) (h2 : e.ses = d.ses) (h3 : e.nc = d.nc) (h4 : e.ces = d.ces) (h5 : e.fuse = d.fuse) (h6 : e.down = d.down) :
    runF cfg 56 [.agg d.v, .agg e.v] σ p = some (.b true, σ) := by
  obtain ⟨s1, c1, sf, cf, sb, cb⟩ := hd
  obtain ⟨s2, c2, _⟩ := he
  obtain ⟨x1, n, es, y1, m, fs, fu, dn⟩ := d
  obtain ⟨x2, n', es', y2, m', fs', fu', dn'⟩ := e
  simp only at h1 h2 h3 h4 h5 h6 s1 s2 c1 c2 sf cf sb cb
  subst h1 h2 h3 h4 h5 h6
  refine run_done rfl rfl Tryz.func56 rfl ?_
  have o1 := s1.one
  have o2 := s2.one
  have o3 := c1.one
  have o4 := c2.one
  have l1 := fun τ => s1.len (C := cfg) sh27 τ
  have l2 := fun τ => s2.len (C := cfg) sh27 τ
  have l3 := fun τ => c1.len (C := cfg) sh28 τ
  have l4 := fun τ => c2.len (C := cfg) sh28 τ
  simp +contextual (disch := first | omega | exact rfl | decide | exact kpF (by decide) | exact kpT (by decide) | assumption | exact Z2z | exact Z30 | exact Z32 | exact Z31 | exact Z33 | exact Z34 | (simp only [ZI] <;> omega) | simp only [ZK] | (simp only [ZL] <;> assumption)) only [Tryz.f56, ZH, SOp, GOp, ↓Z1c, Int.reduceAdd, Int.reduceSub, Int.reduceMul, Int.reduceNeg, accs, touch, touchM, okPair, Nat.reduceAdd, Nat.reduceLeDiff, Nat.reduceMul, Nat.reduceSub, isV, opA, grdO, grd, Z41, Int.reduceLT, Int.reduceLE, Int.reduceToNat, builtinP, builtinA, changes, fieldAddrA, resA, tupled, ↓reduceIte, Nat.reduceEqDiff, Nat.reduceLT, Z70, Int.reduceEq, dr56x6, dr56x11, Y3, Y4, Y27, Y28, Y30, Y116, bne4, DiskR.v, o1, o2, o3, o4, l1, l2, l3, l4]
  refine Wq.up (fun i s => s.nt = 73 ∧ s.σ = σ ++ [.cells (0 :: p) [x1, y1, .i .i64 fu', .b dn'], .cells (1 :: p) [x2, y2, .i .i64 fu', .b dn']] ∧ s.t.get 2 = some (.ptr σ.length (0 :: p) 0) ∧ s.t.get 3 = some (.ptr (σ.length + 1) (1 :: p) 0) ∧ s.t.get 5 = some (.i .i64 (i : Nat))) n' ?_ ?_
  · refine ⟨rfl, rfl, ?_⟩
    simp +contextual (disch := first | omega | exact rfl | decide | exact kpF (by decide) | exact kpT (by decide) | assumption | exact Z2z | exact Z30 | exact Z32 | exact Z31 | exact Z33 | exact Z34 | (simp only [ZI] <;> omega) | simp only [ZK] | (simp only [ZL] <;> assumption)) only [ZH, SOp, GOp, ↓Z1c, Int.reduceAdd, Int.reduceSub, Int.reduceMul, Int.reduceNeg, accs, touch, touchM, okPair, Nat.reduceAdd, Nat.reduceLeDiff, Nat.reduceMul, Nat.reduceSub, isV, opA, grdO, grd, Z41, Int.reduceLT, Int.reduceLE, Int.reduceToNat, builtinP, builtinA, changes, fieldAddrA, resA, tupled, ↓reduceIte, Nat.reduceEqDiff, Nat.reduceLT, Z70, Int.reduceEq]
  · rintro i ⟨t, nt, σ', c⟩ hi ⟨rfl, rfl, g2, g3, g5⟩
    by_cases hlt : i < n'
    · have hlt' : (i : Int) < (n' : Int) := by omega
      have a1 := s1.at (C := cfg) sh27 sz145 hlt
      have a2 := s2.at (C := cfg) sh27 sz145 hlt
      have ld : ∀ τ, loadA cfg 145 τ (.iptr (es'.drop (i * (129 + 1)))) = some (.agg ((es'.drop (i * 130)).take 130)) := fun τ => by
        rw [load_iagg ag145 sz145, take_el s1.1 hlt]; rfl
      have ne := fun x y => ne145 (x := x) (y := y) (sf i hlt) (sf i hlt)
      have er : eqB ((es'.drop (i * 130)).take 130) ((es'.drop (i * 130)).take 130) = true := eqB_refl (fk_some (sf i hlt))
      simp +contextual (disch := first | omega | exact rfl | decide | exact kpF (by decide) | exact kpT (by decide) | assumption | exact Z2z | exact Z30 | exact Z32 | exact Z31 | exact Z33 | exact Z34 | (simp only [ZI] <;> omega) | simp only [ZK] | (simp only [ZL] <;> assumption)) only [ZH, SOp, GOp, ↓Z1c, Int.reduceAdd, Int.reduceSub, Int.reduceMul, Int.reduceNeg, accs, touch, touchM, okPair, Nat.reduceAdd, Nat.reduceLeDiff, Nat.reduceMul, Nat.reduceSub, isV, opA, grdO, grd, Z41, Int.reduceLT, Int.reduceLE, Int.reduceToNat, builtinP, builtinA, changes, fieldAddrA, resA, tupled, ↓reduceIte, Nat.reduceEqDiff, Nat.reduceLT, Z70, Int.reduceEq, dr56x6, dr56x11, Y3, Y4, Y27, Y28, Y30, Y116, g2, g3, g5, l1, l2, hlt', a1, a2, ld, ne, er]
      exact ⟨hlt, rfl⟩
    · have hi' : i = n' := by omega
      subst hi'
      simp +contextual (disch := first | omega | exact rfl | decide | exact kpF (by decide) | exact kpT (by decide) | assumption | exact Z2z | exact Z30 | exact Z32 | exact Z31 | exact Z33 | exact Z34 | (simp only [ZI] <;> omega) | simp only [ZK] | (simp only [ZL] <;> assumption)) only [ZH, SOp, GOp, ↓Z1c, Int.reduceAdd, Int.reduceSub, Int.reduceMul, Int.reduceNeg, accs, touch, touchM, okPair, Nat.reduceAdd, Nat.reduceLeDiff, Nat.reduceMul, Nat.reduceSub, isV, opA, grdO, grd, Z41, Int.reduceLT, Int.reduceLE, Int.reduceToNat, builtinP, builtinA, changes, fieldAddrA, resA, tupled, ↓reduceIte, Nat.reduceEqDiff, Nat.reduceLT, Z70, Int.reduceEq, dr56x6, dr56x11, Y3, Y4, Y27, Y28, Y30, Y116, g2, g3, g5, l1, l2, Int.lt_irrefl]
      refine Wq.up (fun i s => s.nt = 73 ∧ s.σ = σ ++ [.cells (0 :: p) [x1, y1, .i .i64 fu', .b dn'], .cells (1 :: p) [x2, y2, .i .i64 fu', .b dn']] ∧ s.t.get 2 = some (.ptr σ.length (0 :: p) 0) ∧ s.t.get 3 = some (.ptr (σ.length + 1) (1 :: p) 0) ∧ s.t.get 6 = some (.i .i64 (i : Nat))) m' ?_ ?_
      · refine ⟨rfl, rfl, ?_⟩
        simp +contextual (disch := first | omega | exact rfl | decide | exact kpF (by decide) | exact kpT (by decide) | assumption | exact Z2z | exact Z30 | exact Z32 | exact Z31 | exact Z33 | exact Z34 | (simp only [ZI] <;> omega) | simp only [ZK] | (simp only [ZL] <;> assumption)) only [ZH, SOp, GOp, ↓Z1c, Int.reduceAdd, Int.reduceSub, Int.reduceMul, Int.reduceNeg, accs, touch, touchM, okPair, Nat.reduceAdd, Nat.reduceLeDiff, Nat.reduceMul, Nat.reduceSub, isV, opA, grdO, grd, Z41, Int.reduceLT, Int.reduceLE, Int.reduceToNat, builtinP, builtinA, changes, fieldAddrA, resA, tupled, ↓reduceIte, Nat.reduceEqDiff, Nat.reduceLT, Z70, Int.reduceEq, g2, g3]
      · rintro i ⟨t, nt, σ', c⟩ hi ⟨rfl, rfl, g2, g3, g6⟩
        by_cases hlt : i < m'
        · have hlt' : (i : Int) < (m' : Int) := by omega
          have a1 := c1.at (C := cfg) sh28 sz116 hlt
          have a2 := c2.at (C := cfg) sh28 sz116 hlt
          have ld : ∀ τ, loadA cfg 116 τ (.iptr (fs'.drop (i * (128 + 1)))) = some (.agg ((fs'.drop (i * 129)).take 129)) := fun τ => by
            rw [load_iagg ag116 sz116, take_el c1.1 hlt]; rfl
          have ne := fun x y => ne116 (x := x) (y := y) (cf i hlt) (cf i hlt)
          have er : eqB ((fs'.drop (i * 129)).take 129) ((fs'.drop (i * 129)).take 129) = true := eqB_refl (fk_some (cf i hlt))
          simp +contextual (disch := first | omega | exact rfl | decide | exact kpF (by decide) | exact kpT (by decide) | assumption | exact Z2z | exact Z30 | exact Z32 | exact Z31 | exact Z33 | exact Z34 | (simp only [ZI] <;> omega) | simp only [ZK] | (simp only [ZL] <;> assumption)) only [ZH, SOp, GOp, ↓Z1c, Int.reduceAdd, Int.reduceSub, Int.reduceMul, Int.reduceNeg, accs, touch, touchM, okPair, Nat.reduceAdd, Nat.reduceLeDiff, Nat.reduceMul, Nat.reduceSub, isV, opA, grdO, grd, Z41, Int.reduceLT, Int.reduceLE, Int.reduceToNat, builtinP, builtinA, changes, fieldAddrA, resA, tupled, ↓reduceIte, Nat.reduceEqDiff, Nat.reduceLT, Z70, Int.reduceEq, dr56x6, dr56x11, Y3, Y4, Y27, Y28, Y30, Y116, g2, g3, g6, l3, l4, hlt', a1, a2, ld, ne, er]
          exact ⟨hlt, rfl⟩
        · have hi' : i = m' := by omega
          subst hi'
          simp +contextual (disch := first | omega | exact rfl | decide | exact kpF (by decide) | exact kpT (by decide) | assumption | exact Z2z | exact Z30 | exact Z32 | exact Z31 | exact Z33 | exact Z34 | (simp only [ZI] <;> omega) | simp only [ZK] | (simp only [ZL] <;> assumption)) only [ZH, SOp, GOp, ↓Z1c, Int.reduceAdd, Int.reduceSub, Int.reduceMul, Int.reduceNeg, accs, touch, touchM, okPair, Nat.reduceAdd, Nat.reduceLeDiff, Nat.reduceMul, Nat.reduceSub, isV, opA, grdO, grd, Z41, Int.reduceLT, Int.reduceLE, Int.reduceToNat, builtinP, builtinA, changes, fieldAddrA, resA, tupled, ↓reduceIte, Nat.reduceEqDiff, Nat.reduceLT, Z70, Int.reduceEq, dr56x6, dr56x11, Y3, Y4, Y27, Y28, Y30, Y116, g2, g3, g6, l3, l4, Int.lt_irrefl]
theorem same_remap (d e : RemapR) (hd : d.ok) (he : e.ok) (h1 : e.gen = d.gen) (h2 : e.pl = d.pl) : runF cfg 57 [.agg d.v, .agg e.v] σ p = some (.b true, σ) := by
  obtain ⟨s1, b⟩ := hd
  obtain ⟨s2, _⟩ := he
  obtain ⟨ge, x1, l⟩ := d
  obtain ⟨ge', x2, l'⟩ := e
  simp only at h1 h2 s1 s2 b
  subst h1 h2
  refine run_done rfl rfl Tryz.func57 rfl ?_
  have o1 := s1.one
  have o2 := s2.one
  have l1 := fun τ => s1.len (C := cfg) sh31 τ
  have l2 := fun τ => s2.len (C := cfg) sh31 τ
  simp +contextual (disch := first | omega | exact rfl | decide | exact kpF (by decide) | exact kpT (by decide) | assumption | exact Z2z | exact Z30 | exact Z32 | exact Z31 | exact Z33 | exact Z34 | (simp only [ZI] <;> omega) | simp only [ZK] | (simp only [ZL] <;> assumption)) only [Tryz.f57, ZH, SOp, GOp, ↓Z1c, Int.reduceAdd, Int.reduceSub, Int.reduceMul, Int.reduceNeg, accs, touch, touchM, okPair, Nat.reduceAdd, Nat.reduceLeDiff, Nat.reduceMul, Nat.reduceSub, isV, opA, grdO, grd, Z41, Int.reduceLT, Int.reduceLE, Int.reduceToNat, builtinP, builtinA, changes, fieldAddrA, resA, tupled, ↓reduceIte, Nat.reduceEqDiff, Nat.reduceLT, Z70, Int.reduceEq, dr57x6, Y3, Y31, Y33, Y119, RemapR.v, o1, o2, l1, l2]
  refine Wq.up (fun i s => s.nt = 38 ∧ s.σ = σ ++ [.cells (0 :: p) [.i .i64 ge', x1], .cells (1 :: p) [.i .i64 ge', x2]] ∧ s.t.get 2 = some (.ptr σ.length (0 :: p) 0) ∧ s.t.get 3 = some (.ptr (σ.length + 1) (1 :: p) 0) ∧ s.t.get 5 = some (.i .i64 (i : Nat))) l'.length ?_ ?_
  · refine ⟨rfl, rfl, ?_⟩
    simp +contextual (disch := first | omega | exact rfl | decide | exact kpF (by decide) | exact kpT (by decide) | assumption | exact Z2z | exact Z30 | exact Z32 | exact Z31 | exact Z33 | exact Z34 | (simp only [ZI] <;> omega) | simp only [ZK] | (simp only [ZL] <;> assumption)) only [ZH, SOp, GOp, ↓Z1c, Int.reduceAdd, Int.reduceSub, Int.reduceMul, Int.reduceNeg, accs, touch, touchM, okPair, Nat.reduceAdd, Nat.reduceLeDiff, Nat.reduceMul, Nat.reduceSub, isV, opA, grdO, grd, Z41, Int.reduceLT, Int.reduceLE, Int.reduceToNat, builtinP, builtinA, changes, fieldAddrA, resA, tupled, ↓reduceIte, Nat.reduceEqDiff, Nat.reduceLT, Z70, Int.reduceEq]
  · rintro i ⟨t, nt, σ', c⟩ hi ⟨rfl, rfl, g2, g3, g5⟩
    by_cases hlt : i < l'.length
    · have hlt' : (i : Int) < (l'.length : Int) := by omega
      have a1 := s1.at (C := cfg) sh31 sz119 hlt
      have a2 := s2.at (C := cfg) sh31 sz119 hlt
      have ld : ∀ τ, loadA cfg 119 τ (.iptr ((prV l').drop (i * (1 + 1)))) = some (.agg [.i .i64 l'[i].1, .i .i64 l'[i].2]) := fun τ => by
        rw [load_iagg ag119 sz119, prV_drop l' i hlt]; rfl
      simp +contextual (disch := first | omega | exact rfl | decide | exact kpF (by decide) | exact kpT (by decide) | assumption | exact Z2z | exact Z30 | exact Z32 | exact Z31 | exact Z33 | exact Z34 | (simp only [ZI] <;> omega) | simp only [ZK] | (simp only [ZL] <;> assumption)) only [ZH, SOp, GOp, ↓Z1c, Int.reduceAdd, Int.reduceSub, Int.reduceMul, Int.reduceNeg, accs, touch, touchM, okPair, Nat.reduceAdd, Nat.reduceLeDiff, Nat.reduceMul, Nat.reduceSub, isV, opA, grdO, grd, Z41, Int.reduceLT, Int.reduceLE, Int.reduceToNat, builtinP, builtinA, changes, fieldAddrA, resA, tupled, ↓reduceIte, Nat.reduceEqDiff, Nat.reduceLT, Z70, Int.reduceEq, dr57x6, Y3, Y31, Y33, Y119, g2, g3, g5, l1, l2, hlt', a1, a2, ld]
      exact ⟨hlt, rfl⟩
    · have hi' : i = l'.length := by omega
      subst hi'
      simp +contextual (disch := first | omega | exact rfl | decide | exact kpF (by decide) | exact kpT (by decide) | assumption | exact Z2z | exact Z30 | exact Z32 | exact Z31 | exact Z33 | exact Z34 | (simp only [ZI] <;> omega) | simp only [ZK] | (simp only [ZL] <;> assumption)) only [ZH, SOp, GOp, ↓Z1c, Int.reduceAdd, Int.reduceSub, Int.reduceMul, Int.reduceNeg, accs, touch, touchM, okPair, Nat.reduceAdd, Nat.reduceLeDiff, Nat.reduceMul, Nat.reduceSub, isV, opA, grdO, grd, Z41, Int.reduceLT, Int.reduceLE, Int.reduceToNat, builtinP, builtinA, changes, fieldAddrA, resA, tupled, ↓reduceIte, Nat.reduceEqDiff, Nat.reduceLT, Z70, Int.reduceEq, dr57x6, Y3, Y31, Y33, Y119, g2, g3, g5, l1, l2, Int.lt_irrefl]
theorem tk402 {a0 a1 a2 a3 : V} : take? [a0, a1, a2, a3] 0 2 = some [a0, a1] := rfl
theorem same_space (d e : SpaceR) (hd : d.ok) (he : e.ok) (h1 : e.at0 = d.at0) (h2 : e.at1 = d.at1) (h3 : e.size = d.size) (h4 : e.sl = d.sl) : runF cfg 58 [.agg d.v, .agg e.v] σ p = some (.b true, σ) := by
  have v1 := hd.sv.view
  have v2 := he.sv.view
  have o1 := hd.sv.one
  have o2 := he.sv.one
  rw [h4] at v2
  have hs := fun (τ : List O) q => samev_ok (σ := τ) (p := q) d.sl (v1 τ) (v2 τ)
  refine run_done rfl rfl Tryz.func58 rfl ?_
  have e48 : ∀ x y, binA cfg .eql 34 x y (.agg [.i .i64 d.at0, .i .i64 d.at1]) (.agg [.i .i64 d.at0, .i .i64 d.at1]) = some (.b true) := fun x y => by
    rw [eq34 (by simp [fk_i]) (by simp [fk_i])]; simp [eqB_cons, eqB_nil, scB_i]
  simp +contextual (disch := first | omega | exact rfl | decide | exact kpF (by decide) | exact kpT (by decide) | assumption | exact Z2z | exact Z30 | exact Z32 | exact Z31 | exact Z33 | exact Z34 | (simp only [ZI] <;> omega) | simp only [ZK] | (simp only [ZL] <;> assumption)) only [Tryz.f58, ZH, SOp, GOp, ↓Z1c, Int.reduceAdd, Int.reduceSub, Int.reduceMul, Int.reduceNeg, accs, touch, touchM, okPair, Nat.reduceAdd, Nat.reduceLeDiff, Nat.reduceMul, Nat.reduceSub, isV, opA, grdO, grd, Z41, Int.reduceLT, Int.reduceLE, Int.reduceToNat, builtinP, builtinA, changes, fieldAddrA, resA, tupled, ↓reduceIte, Nat.reduceEqDiff, Nat.reduceLT, Z70, Int.reduceEq, Y3, Y34, Y35, Y37, SpaceR.v, o1, o2, h1, h2, h3, hs, e48, tk402]
theorem same_vol (v w : VolR) (hv : v.ok) (hw : w.ok) (hd : w.cp = v.cp) : runF cfg 19 [.agg v.v, .agg w.v] σ p = some (.b true, σ) := by
  have q1 : w.d.cp = v.d.cp := congrArg VolR.d hd
  have q2 : w.m.cp = v.m.cp := congrArg VolR.m hd
  have q3 : w.s.cp = v.s.cp := congrArg VolR.s hd
  have c1 := fun (τ : List O) q => same_disk (σ := τ) (p := q) v.d w.d hv.d hw.d (by have := congrArg DiskR.ns q1; exact this) (by have := congrArg DiskR.ses q1; exact this) (by have := congrArg DiskR.nc q1; exact this) (by have := congrArg DiskR.ces q1; exact this) (by have := congrArg DiskR.fuse q1; exact this) (by have := congrArg DiskR.down q1; exact this)
  have c2 := fun (τ : List O) q => same_remap (σ := τ) (p := q) v.m w.m hv.m hw.m (by have := congrArg RemapR.gen q2; exact this) (by have := congrArg RemapR.pl q2; exact this)
  have c3 := fun (τ : List O) q => same_space (σ := τ) (p := q) v.s w.s hv.s hw.s (by have := congrArg SpaceR.at0 q3; exact this) (by have := congrArg SpaceR.at1 q3; exact this) (by have := congrArg SpaceR.size q3; exact this) (by have := congrArg SpaceR.sl q3; exact this)
  refine run_done rfl rfl Tryz.func19 rfl ?_
  have o1 := hv.d.s.one
  have o2 := hv.d.c.one
  have o3 := hv.m.s.one
  have o4 := hv.s.sv.one
  have n1 := hw.d.s.one
  have n2 := hw.d.c.one
  have n3 := hw.m.s.one
  have n4 := hw.s.sv.one
  simp only [DiskR.v, RemapR.v, SpaceR.v] at c1 c2 c3
  simp +contextual (disch := first | omega | exact rfl | decide | exact kpF (by decide) | exact kpT (by decide) | assumption | exact Z2z | exact Z30 | exact Z32 | exact Z31 | exact Z33 | exact Z34 | (simp only [ZI] <;> omega) | simp only [ZK] | (simp only [ZL] <;> assumption)) only [Tryz.f19, ZH, SOp, GOp, ↓Z1c, Int.reduceAdd, Int.reduceSub, Int.reduceMul, Int.reduceNeg, accs, touch, touchM, okPair, Nat.reduceAdd, Nat.reduceLeDiff, Nat.reduceMul, Nat.reduceSub, isV, opA, grdO, grd, Z41, Int.reduceLT, Int.reduceLE, Int.reduceToNat, builtinP, builtinA, changes, fieldAddrA, resA, tupled, ↓reduceIte, Nat.reduceEqDiff, Nat.reduceLT, Z70, Int.reduceEq, Y3, Y4, Y27, Y28, Y30, Y31, Y33, Y34, Y35, Y37, Y39, Y116, Y119, VolR.v, c1, c2, c3, o1, o2, o3, o4, n1, n2, n3, n4, tk04, tk42, tk64]
end Go.Am.R2

/- Volumes: is a disk right. -/
namespace Go.Am.R2
open Go.Proofs
set_option maxRecDepth 100000
set_option linter.unusedSimpArgs false
set_option linter.unusedVariables false
variable {σ : List O} {p : List Nat}
def wAt (els : List V) (i : Nat) : Int := match els[i * 129]? with | some (.i _ n) => n | _ => 0
theorem wAt_eq {els : List V} {i : Nat} (h : ((els.drop (i * 129)).take 129).map V.fk = ([(.i .i64)] ++ List.replicate 128 (.i .u8) : List Fk).map some) : els[i * 129]? = some (.i .i64 (wAt els i)) := by
  have := congrArg (fun l => l[0]?) h
  simp only [List.getElem?_map, List.getElem?_take, List.getElem?_drop, Nat.add_zero, show (0 : Nat) < 129 from by decide, if_true] at this
  unfold wAt
  cases hc : els[i * 129]? with
  | none => rw [hc] at this; simp at this
  | some v =>
    rw [hc] at this
    simp at this
    cases v <;> simp [V.fk] at this
    subst this; rfl
def badW (els : List V) (ns : Nat) (i : Nat) : Bool := decide (wAt els i < 0) || decide ((ns : Int) ≤ wAt els i)
def formedB (d : DiskR) : Bool := decide (0 < d.ns) && decide (d.ns ≤ 4096) && (List.range d.nc).all fun i => !badW d.ces d.ns i
theorem bad_ok {us : List V} {w : Int} {ns : Nat} {r : Nat} {st : List Nat} (hl : us.length = 129) (ho : us.all V.one = true) (hw : us[0]? = some (.i .i64 w)) (hr : rowAt σ r st = some [.i .i64 ns]) :
    runF cfg 195 [.agg us, .ptr r st 0] σ p = some (.b (decide (w < 0) || decide ((ns : Int) ≤ w)), σ) := by
  refine run_done rfl rfl Tryz.func195 rfl ?_
  have hr' : ∀ L, rowAt (σ ++ L) r st = some [.i .i64 ns] := fun L => rowAt_old hr
  simp +contextual (disch := first | omega | exact rfl | decide | exact kpF (by decide) | exact kpT (by decide) | assumption | exact Z2z | exact Z30 | exact Z32 | exact Z31 | exact Z33 | exact Z34 | (simp only [ZI] <;> omega) | simp only [ZK] | (simp only [ZL] <;> assumption)) only [Tryz.f195, ZH, SOp, GOp, ↓Z1c, Int.reduceAdd, Int.reduceSub, Int.reduceMul, Int.reduceNeg, accs, touch, touchM, okPair, Nat.reduceAdd, Nat.reduceLeDiff, Nat.reduceMul, Nat.reduceSub, isV, opA, grdO, grd, Z41, Int.reduceLT, Int.reduceLE, Int.reduceToNat, builtinP, builtinA, changes, fieldAddrA, resA, tupled, ↓reduceIte, Nat.reduceEqDiff, Nat.reduceLT, Z70, Int.reduceEq, Y3, Y116, ho, hw, hr']
theorem index_ok (d : DiskR) (h : d.ok) {r : Nat} {st : List Nat} (hr : rowAt σ r st = some [.i .i64 d.ns]) :
    ∃ k : Int, runF cfg 220 [d.cac, .fn 195 [] [.ptr r st 0]] σ p = some (.i .i64 k, σ) ∧ (decide (0 ≤ k) = !(List.range d.nc).all fun i => !badW d.ces d.ns i) ∧ -1 ≤ k ∧ k ≤ 140737488355328 := by
  suffices hs : ∃ res, runF cfg 220 [d.cac, .fn 195 [] [.ptr r st 0]] σ p = some res ∧ ∃ k : Int, res = (.i .i64 k, σ) ∧ (decide (0 ≤ k) = !(List.range d.nc).all fun i => !badW d.ces d.ns i) ∧ -1 ≤ k ∧ k ≤ 140737488355328 by
    obtain ⟨res, h1, k, rfl, h2⟩ := hs
    exact ⟨k, h1, h2⟩
  refine run_doneP rfl rfl Tryz.func220 rfl ?_
  have hb := h.cb
  have l3 := fun τ => h.c.len (C := cfg) sh28 τ
  simp +contextual (disch := first | omega | exact rfl | decide | exact kpF (by decide) | exact kpT (by decide) | assumption | exact Z2z | exact Z30 | exact Z32 | exact Z31 | exact Z33 | exact Z34 | (simp only [ZI] <;> omega) | simp only [ZK] | (simp only [ZL] <;> assumption)) only [Tryz.f220, ZH, SOp, GOp, ↓Z1c, Int.reduceAdd, Int.reduceSub, Int.reduceMul, Int.reduceNeg, accs, touch, touchM, okPair, Nat.reduceAdd, Nat.reduceLeDiff, Nat.reduceMul, Nat.reduceSub, isV, opA, grdO, grd, Z41, Int.reduceLT, Int.reduceLE, Int.reduceToNat, builtinP, builtinA, changes, fieldAddrA, resA, tupled, ↓reduceIte, Nat.reduceEqDiff, Nat.reduceLT, Z70, Int.reduceEq, Y3, Y28, Y116, l3]
  refine Wq.up (fun i s => s.nt = 19 ∧ s.σ = σ ∧ s.t.get 0 = some d.cac ∧ s.t.get 1 = some (.fn 195 [] [.ptr r st 0]) ∧ s.t.get 7 = some (.i .i64 d.nc) ∧ s.t.get 8 = some (.i .i64 (i : Nat)) ∧ ∀ j, j < i → badW d.ces d.ns j = false) d.nc ?_ ?_
  · refine ⟨rfl, rfl, ?_⟩
    simp +contextual (disch := first | omega | exact rfl | decide | exact kpF (by decide) | exact kpT (by decide) | assumption | exact Z2z | exact Z30 | exact Z32 | exact Z31 | exact Z33 | exact Z34 | (simp only [ZI] <;> omega) | simp only [ZK] | (simp only [ZL] <;> assumption)) only [ZH, SOp, GOp, ↓Z1c, Int.reduceAdd, Int.reduceSub, Int.reduceMul, Int.reduceNeg, accs, touch, touchM, okPair, Nat.reduceAdd, Nat.reduceLeDiff, Nat.reduceMul, Nat.reduceSub, isV, opA, grdO, grd, Z41, Int.reduceLT, Int.reduceLE, Int.reduceToNat, builtinP, builtinA, changes, fieldAddrA, resA, tupled, ↓reduceIte, Nat.reduceEqDiff, Nat.reduceLT, Z70, Int.reduceEq]
    exact fun j hj => absurd hj (by omega)
  · rintro i ⟨t, nt, σ', c⟩ hi ⟨rfl, rfl, g0, g1, g7, g8, hno⟩
    by_cases hlt : i < d.nc
    · have hlt' : (i : Int) < (d.nc : Int) := by omega
      have a1 := h.c.at (C := cfg) sh28 sz116 hlt
      have ld : ∀ τ, loadA cfg 116 τ (.iptr (d.ces.drop (i * (128 + 1)))) = some (.agg ((d.ces.drop (i * 129)).take 129)) := fun τ => by
        rw [load_iagg ag116 sz116, take_el h.c.1 hlt]; rfl
      have hf := h.cf i hlt
      have hw := wAt_eq hf
      have hbad := fun q => bad_ok (σ := σ') (p := q) (us := (d.ces.drop (i * 129)).take 129) (w := wAt d.ces i) (ns := d.ns) (by have := fk_len hf; simpa using this) (all_one_fk (fk_some hf)) (by simp [List.getElem?_take, List.getElem?_drop, hw]) hr
      have hbw : (decide (wAt d.ces i < 0) || decide ((d.ns : Int) ≤ wAt d.ces i)) = badW d.ces d.ns i := rfl
      rw [hbw] at hbad
      cases hbb : badW d.ces d.ns i with
      | true =>
        rw [hbb] at hbad
        simp +contextual (disch := first | omega | exact rfl | decide | exact kpF (by decide) | exact kpT (by decide) | assumption | exact Z2z | exact Z30 | exact Z32 | exact Z31 | exact Z33 | exact Z34 | (simp only [ZI] <;> omega) | simp only [ZK] | (simp only [ZL] <;> assumption)) only [ZH, SOp, GOp, ↓Z1c, Int.reduceAdd, Int.reduceSub, Int.reduceMul, Int.reduceNeg, accs, touch, touchM, okPair, Nat.reduceAdd, Nat.reduceLeDiff, Nat.reduceMul, Nat.reduceSub, isV, opA, grdO, grd, Z41, Int.reduceLT, Int.reduceLE, Int.reduceToNat, builtinP, builtinA, changes, fieldAddrA, resA, tupled, ↓reduceIte, Nat.reduceEqDiff, Nat.reduceLT, Z70, Int.reduceEq, Y3, Y28, Y116, g0, g1, g7, g8, hlt', a1, ld, SCall_fnC, hbad, DoneP_ret]
        refine ⟨(i : Int), rfl, ?_, by omega, by omega⟩
        rw [decide_eq_true (by omega)]
        symm
        rw [Bool.not_eq_true', List.all_eq_false]
        exact ⟨i, List.mem_range.2 hlt, by rw [hbb]; decide⟩
      | false =>
        rw [hbb] at hbad
        simp +contextual (disch := first | omega | exact rfl | decide | exact kpF (by decide) | exact kpT (by decide) | assumption | exact Z2z | exact Z30 | exact Z32 | exact Z31 | exact Z33 | exact Z34 | (simp only [ZI] <;> omega) | simp only [ZK] | (simp only [ZL] <;> assumption)) only [ZH, SOp, GOp, ↓Z1c, Int.reduceAdd, Int.reduceSub, Int.reduceMul, Int.reduceNeg, accs, touch, touchM, okPair, Nat.reduceAdd, Nat.reduceLeDiff, Nat.reduceMul, Nat.reduceSub, isV, opA, grdO, grd, Z41, Int.reduceLT, Int.reduceLE, Int.reduceToNat, builtinP, builtinA, changes, fieldAddrA, resA, tupled, ↓reduceIte, Nat.reduceEqDiff, Nat.reduceLT, Z70, Int.reduceEq, Y3, Y28, Y116, g0, g1, g7, g8, hlt', a1, ld, SCall_fnC, hbad]
        refine ⟨hlt, rfl, fun j hj => ?_⟩
        by_cases he : j = i
        · subst he; exact hbb
        · exact hno j (by omega)
    · have hi' : i = d.nc := by omega
      subst hi'
      simp +contextual (disch := first | omega | exact rfl | decide | exact kpF (by decide) | exact kpT (by decide) | assumption | exact Z2z | exact Z30 | exact Z32 | exact Z31 | exact Z33 | exact Z34 | (simp only [ZI] <;> omega) | simp only [ZK] | (simp only [ZL] <;> assumption)) only [ZH, SOp, GOp, ↓Z1c, Int.reduceAdd, Int.reduceSub, Int.reduceMul, Int.reduceNeg, accs, touch, touchM, okPair, Nat.reduceAdd, Nat.reduceLeDiff, Nat.reduceMul, Nat.reduceSub, isV, opA, grdO, grd, Z41, Int.reduceLT, Int.reduceLE, Int.reduceToNat, builtinP, builtinA, changes, fieldAddrA, resA, tupled, ↓reduceIte, Nat.reduceEqDiff, Nat.reduceLT, Z70, Int.reduceEq, Y3, Y28, Y116, g0, g1, g7, g8, Int.lt_irrefl, DoneP_ret, DoneP_normal]
      refine ⟨-1, rfl, ?_, by omega, by omega⟩
      rw [decide_eq_false (by omega)]
      symm
      rw [Bool.not_eq_false', List.all_eq_true]
      intro j hj
      rw [hno j (List.mem_range.1 hj)]; rfl
theorem formed_ok (d : DiskR) (h : d.ok) : runF cfg 168 [.agg d.v] σ p = some (.b (formedB d), σ) := by
  refine run_done rfl rfl Tryz.func168 rfl ?_
  have o1 := h.s.one
  have o2 := h.c.one
  have l1 := fun τ => h.s.len (C := cfg) sh27 τ
  have hc : ∀ (τ : List O) r st q, rowAt τ r st = some [.i .i64 d.ns] → runF cfg 194 [d.cac, .fn 195 [] [.ptr r st 0]] τ q = some (.b (!(List.range d.nc).all fun i => !badW d.ces d.ns i), τ) := by
    intro τ r st q hr
    refine run_done rfl rfl Tryz.func194 rfl ?_
    obtain ⟨k, hk, hk2, _⟩ := index_ok (σ := τ) (p := 0 :: q) d h hr
    simp +contextual (disch := first | omega | exact rfl | decide | exact kpF (by decide) | exact kpT (by decide) | assumption | exact Z2z | exact Z30 | exact Z32 | exact Z31 | exact Z33 | exact Z34 | (simp only [ZI] <;> omega) | simp only [ZK] | (simp only [ZL] <;> assumption)) only [Tryz.f194, ZH, SOp, GOp, ↓Z1c, Int.reduceAdd, Int.reduceSub, Int.reduceMul, Int.reduceNeg, accs, touch, touchM, okPair, Nat.reduceAdd, Nat.reduceLeDiff, Nat.reduceMul, Nat.reduceSub, isV, opA, grdO, grd, Z41, Int.reduceLT, Int.reduceLE, Int.reduceToNat, builtinP, builtinA, changes, fieldAddrA, resA, tupled, ↓reduceIte, Nat.reduceEqDiff, Nat.reduceLT, Z70, Int.reduceEq, Y3, hk, hk2]
  have hc2 : ∀ A st q, runF cfg 194 [d.cac, .fn 195 [] [.ptr (σ.length + 1) st 0]] (σ ++ [A, .cells st [.i .i64 d.ns]]) q = _ := fun A st q => hc (σ ++ [A, .cells st [.i .i64 d.ns]]) (σ.length + 1) st q (by rw [rowAt_app]; simp [rowAt])
  simp +contextual (disch := first | omega | exact rfl | decide | exact kpF (by decide) | exact kpT (by decide) | assumption | exact Z2z | exact Z30 | exact Z32 | exact Z31 | exact Z33 | exact Z34 | (simp only [ZI] <;> omega) | simp only [ZK] | (simp only [ZL] <;> assumption)) only [Tryz.f168, ZH, SOp, GOp, ↓Z1c, Int.reduceAdd, Int.reduceSub, Int.reduceMul, Int.reduceNeg, accs, touch, touchM, okPair, Nat.reduceAdd, Nat.reduceLeDiff, Nat.reduceMul, Nat.reduceSub, isV, opA, grdO, grd, Z41, Int.reduceLT, Int.reduceLE, Int.reduceToNat, builtinP, builtinA, changes, fieldAddrA, resA, tupled, ↓reduceIte, Nat.reduceEqDiff, Nat.reduceLT, Z70, Int.reduceEq, Y3, Y4, Y27, Y28, Y30, Y116, DiskR.v, o1, o2, l1, hc2]
  refine congrArg (fun b => (V.b b, σ)) ?_
  rw [Bool.not_not, formedB, decide_eq_decide.2 (show (0 : Int) < d.ns ↔ 0 < d.ns by omega), decide_eq_decide.2 (show (d.ns : Int) ≤ 4096 ↔ d.ns ≤ 4096 by omega)]
end Go.Am.R2

/- Volumes: is a disk right, by the document; is the space's table formed. -/
namespace Go.Am.R2
open Go.Proofs
set_option maxRecDepth 100000
set_option linter.unusedSimpArgs false
set_option linter.unusedVariables false
variable {σ : List O} {p : List Nat}
theorem there_ok (d : DiskR) (h : d.ok) (w : Int) : runF cfg 66 [.agg d.v, .i .i64 w] σ p = some (.b (decide (0 ≤ w) && decide (w < d.ns)), σ) := by
  refine run_done rfl rfl Tryz.func66 rfl ?_
  have o1 := h.s.one
  have o2 := h.c.one
  have l1 := fun τ => h.s.len (C := cfg) sh27 τ
  simp +contextual (disch := first | omega | exact rfl | decide | exact kpF (by decide) | exact kpT (by decide) | assumption | exact Z2z | exact Z30 | exact Z32 | exact Z31 | exact Z33 | exact Z34 | (simp only [ZI] <;> omega) | simp only [ZK] | (simp only [ZL] <;> assumption)) only [Tryz.f66, ZH, SOp, GOp, ↓Z1c, Int.reduceAdd, Int.reduceSub, Int.reduceMul, Int.reduceNeg, accs, touch, touchM, okPair, Nat.reduceAdd, Nat.reduceLeDiff, Nat.reduceMul, Nat.reduceSub, isV, opA, grdO, grd, Z41, Int.reduceLT, Int.reduceLE, Int.reduceToNat, builtinP, builtinA, changes, fieldAddrA, resA, tupled, ↓reduceIte, Nat.reduceEqDiff, Nat.reduceLT, Z70, Int.reduceEq, Y3, Y4, Y27, Y28, Y30, Y116, DiskR.v, o1, o2, l1]
theorem formed3_ok (d : DiskR) (h : d.ok) : runF cfg 25 [.agg d.v] σ p = some (.b (formedB d), σ) := by
  refine run_done rfl rfl Tryz.func25 rfl ?_
  have hb := h.cb
  have o1 := h.s.one
  have o2 := h.c.one
  have l1 := fun τ => h.s.len (C := cfg) sh27 τ
  have l3 := fun τ => h.c.len (C := cfg) sh28 τ
  have th := fun (τ : List O) q w => there_ok (σ := τ) (p := q) d h w
  simp only [DiskR.v] at th
  simp +contextual (disch := first | omega | exact rfl | decide | exact kpF (by decide) | exact kpT (by decide) | assumption | exact Z2z | exact Z30 | exact Z32 | exact Z31 | exact Z33 | exact Z34 | (simp only [ZI] <;> omega) | simp only [ZK] | (simp only [ZL] <;> assumption)) only [Tryz.f25, ZH, SOp, GOp, ↓Z1c, Int.reduceAdd, Int.reduceSub, Int.reduceMul, Int.reduceNeg, accs, touch, touchM, okPair, Nat.reduceAdd, Nat.reduceLeDiff, Nat.reduceMul, Nat.reduceSub, isV, opA, grdO, grd, Z41, Int.reduceLT, Int.reduceLE, Int.reduceToNat, builtinP, builtinA, changes, fieldAddrA, resA, tupled, ↓reduceIte, Nat.reduceEqDiff, Nat.reduceLT, Z70, Int.reduceEq, dr25x4, Y3, Y4, Y27, Y28, Y30, Y116, DiskR.v, o1, o2]
  refine Wq.up (fun i s => s.nt = 30 ∧ s.σ = σ ++ [.cells (0 :: p) d.v] ∧ s.t.get 1 = some (.ptr σ.length (0 :: p) 0) ∧ s.t.get 3 = some (.i .i64 (i : Nat)) ∧ ∀ j, j < i → badW d.ces d.ns j = false) d.nc ?_ ?_
  · refine ⟨rfl, rfl, ?_⟩
    simp +contextual (disch := first | omega | exact rfl | decide | exact kpF (by decide) | exact kpT (by decide) | assumption | exact Z2z | exact Z30 | exact Z32 | exact Z31 | exact Z33 | exact Z34 | (simp only [ZI] <;> omega) | simp only [ZK] | (simp only [ZL] <;> assumption)) only [ZH, SOp, GOp, ↓Z1c, Int.reduceAdd, Int.reduceSub, Int.reduceMul, Int.reduceNeg, accs, touch, touchM, okPair, Nat.reduceAdd, Nat.reduceLeDiff, Nat.reduceMul, Nat.reduceSub, isV, opA, grdO, grd, Z41, Int.reduceLT, Int.reduceLE, Int.reduceToNat, builtinP, builtinA, changes, fieldAddrA, resA, tupled, ↓reduceIte, Nat.reduceEqDiff, Nat.reduceLT, Z70, Int.reduceEq]
    exact fun j hj => absurd hj (by omega)
  · rintro i ⟨t, nt, σ', c⟩ hi ⟨rfl, rfl, g1, g3, hno⟩
    simp only [DiskR.v] at g1 g3 ⊢
    by_cases hlt : i < d.nc
    · have hlt' : (i : Int) < (d.nc : Int) := by omega
      have a1 := h.c.at (C := cfg) sh28 sz116 hlt
      have ld := wAt_eq (h.cf i hlt)
      have hbw : (decide (0 ≤ wAt d.ces i) && decide (wAt d.ces i < d.ns)) = !badW d.ces d.ns i := by
        unfold badW
        rw [Bool.eq_iff_iff]
        simp
      cases hbb : badW d.ces d.ns i with
      | true =>
        rw [hbb] at hbw
        have hf : formedB d = false := by
          unfold formedB
          rw [Bool.and_eq_false_iff]
          right
          rw [List.all_eq_false]
          exact ⟨i, List.mem_range.2 hlt, by rw [hbb]; decide⟩
        simp +contextual (disch := first | omega | exact rfl | decide | exact kpF (by decide) | exact kpT (by decide) | assumption | exact Z2z | exact Z30 | exact Z32 | exact Z31 | exact Z33 | exact Z34 | (simp only [ZI] <;> omega) | simp only [ZK] | (simp only [ZL] <;> assumption)) only [ZH, SOp, GOp, ↓Z1c, Int.reduceAdd, Int.reduceSub, Int.reduceMul, Int.reduceNeg, accs, touch, touchM, okPair, Nat.reduceAdd, Nat.reduceLeDiff, Nat.reduceMul, Nat.reduceSub, isV, opA, grdO, grd, Z41, Int.reduceLT, Int.reduceLE, Int.reduceToNat, builtinP, builtinA, changes, fieldAddrA, resA, tupled, ↓reduceIte, Nat.reduceEqDiff, Nat.reduceLT, Z70, Int.reduceEq, dr25x4, Y3, Y4, Y27, Y28, Y30, Y116, g1, g3, l3, hlt', a1, ld, th, hbw, Nat.zero_le, hf]
      | false =>
        rw [hbb] at hbw
        simp +contextual (disch := first | omega | exact rfl | decide | exact kpF (by decide) | exact kpT (by decide) | assumption | exact Z2z | exact Z30 | exact Z32 | exact Z31 | exact Z33 | exact Z34 | (simp only [ZI] <;> omega) | simp only [ZK] | (simp only [ZL] <;> assumption)) only [ZH, SOp, GOp, ↓Z1c, Int.reduceAdd, Int.reduceSub, Int.reduceMul, Int.reduceNeg, accs, touch, touchM, okPair, Nat.reduceAdd, Nat.reduceLeDiff, Nat.reduceMul, Nat.reduceSub, isV, opA, grdO, grd, Z41, Int.reduceLT, Int.reduceLE, Int.reduceToNat, builtinP, builtinA, changes, fieldAddrA, resA, tupled, ↓reduceIte, Nat.reduceEqDiff, Nat.reduceLT, Z70, Int.reduceEq, dr25x4, Y3, Y4, Y27, Y28, Y30, Y116, g1, g3, l3, hlt', a1, ld, th, hbw, Nat.zero_le]
        refine ⟨hlt, rfl, fun j hj => ?_⟩
        by_cases he : j = i
        · subst he; exact hbb
        · exact hno j (by omega)
    · have hi' : i = d.nc := by omega
      subst hi'
      have hall : ((List.range d.nc).all fun i => !badW d.ces d.ns i) = true := by
        rw [List.all_eq_true]
        intro j hj
        rw [hno j (List.mem_range.1 hj)]; rfl
      simp +contextual (disch := first | omega | exact rfl | decide | exact kpF (by decide) | exact kpT (by decide) | assumption | exact Z2z | exact Z30 | exact Z32 | exact Z31 | exact Z33 | exact Z34 | (simp only [ZI] <;> omega) | simp only [ZK] | (simp only [ZL] <;> assumption)) only [ZH, SOp, GOp, ↓Z1c, Int.reduceAdd, Int.reduceSub, Int.reduceMul, Int.reduceNeg, accs, touch, touchM, okPair, Nat.reduceAdd, Nat.reduceLeDiff, Nat.reduceMul, Nat.reduceSub, isV, opA, grdO, grd, Z41, Int.reduceLT, Int.reduceLE, Int.reduceToNat, builtinP, builtinA, changes, fieldAddrA, resA, tupled, ↓reduceIte, Nat.reduceEqDiff, Nat.reduceLT, Z70, Int.reduceEq, dr25x4, Y3, Y4, Y27, Y28, Y30, Y116, g1, g3, l1, l3, Int.lt_irrefl]
      refine congrArg (fun b => (V.b b, σ)) ?_
      rw [formedB, hall, Bool.and_true, decide_eq_decide.2 (show (1 : Int) ≤ d.ns ↔ 0 < d.ns by omega), decide_eq_decide.2 (show (d.ns : Int) ≤ 4096 ↔ d.ns ≤ 4096 by omega)]
def spaceB (s : SpaceR) : Bool :=
  decide (1 ≤ s.size) && decide (s.size ≤ 2000) && decide ((s.sl.length : Int) = 2 * s.size) && decide (0 ≤ s.at0) && decide (s.at0 + s.size ≤ s.at1) && decide (s.at1 + s.size ≤ 4096) && s.sl.all fun x => decide (x ≤ 4)
theorem max_ok (l : List Int) (h0 : 0 < l.length) (hb : l.length ≤ 140737488355328) {x : V} (hv : ∀ σ, View σ x (ints .u8 l)) : ∃ m, runF cfg 201 [x] σ p = some (.i .u8 m, σ) ∧ (decide (m ≤ 4) = l.all fun x => decide (x ≤ 4)) := by
  suffices hs : ∃ res, runF cfg 201 [x] σ p = some res ∧ ∃ m : Int, res = (.i .u8 m, σ) ∧ (decide (m ≤ 4) = l.all fun x => decide (x ≤ 4)) by
    obtain ⟨res, h1, k, rfl, h2⟩ := hs
    exact ⟨k, h1, h2⟩
  refine run_doneP rfl rfl Tryz.func201 rfl ?_
  have l1 := fun τ => (hv τ).len (C := cfg) (t := 35) sh35
  simp only [ints_len] at l1
  have e0 : ((l.length : Int) < 1) = False := eq_false (by omega)
  obtain ⟨a0, ha0, hla0⟩ := (hv []).at (C := cfg) sh35 sz5 ag5 .i64 0 (by rw [ints_len]; exact h0)
  have hl0 := fun τ => hla0 τ _ (hv τ)
  have ha0' : indexAddrA cfg 35 x (.i .i64 0) = some a0 := ha0
  have hg0 : (ints .u8 l)[0]? = some (.i .u8 (l.getD 0 0)) := ints_get' h0
  simp only [hg0] at hl0
  simp +contextual (disch := first | omega | exact rfl | decide | exact kpF (by decide) | exact kpT (by decide) | assumption | exact Z2z | exact Z30 | exact Z32 | exact Z31 | exact Z33 | exact Z34 | (simp only [ZI] <;> omega) | simp only [ZK] | (simp only [ZL] <;> assumption)) only [Tryz.f201, ZH, SOp, GOp, ↓Z1c, Int.reduceAdd, Int.reduceSub, Int.reduceMul, Int.reduceNeg, accs, touch, touchM, okPair, Nat.reduceAdd, Nat.reduceLeDiff, Nat.reduceMul, Nat.reduceSub, isV, opA, grdO, grd, Z41, Int.reduceLT, Int.reduceLE, Int.reduceToNat, builtinP, builtinA, changes, fieldAddrA, resA, tupled, ↓reduceIte, Nat.reduceEqDiff, Nat.reduceLT, Z70, Int.reduceEq, Y3, Y9, Y35, l1, e0, ha0', hl0]
  refine Wq.up (fun i s => s.nt = 25 ∧ s.σ = σ ∧ i + 1 ≤ l.length ∧ s.t.get 0 = some x ∧ s.t.get 4 = some (.i .i64 ((i : Int) + 1)) ∧ ∃ m : Int, s.t.get 3 = some (.i .u8 m) ∧ (decide (m ≤ 4) = (l.take (i + 1)).all fun x => decide (x ≤ 4))) (l.length - 1) ?_ ?_
  · refine ⟨rfl, rfl, by omega, ?_⟩
    simp +contextual (disch := first | omega | exact rfl | decide | exact kpF (by decide) | exact kpT (by decide) | assumption | exact Z2z | exact Z30 | exact Z32 | exact Z31 | exact Z33 | exact Z34 | (simp only [ZI] <;> omega) | simp only [ZK] | (simp only [ZL] <;> assumption)) only [ZH, SOp, GOp, ↓Z1c, Int.reduceAdd, Int.reduceSub, Int.reduceMul, Int.reduceNeg, accs, touch, touchM, okPair, Nat.reduceAdd, Nat.reduceLeDiff, Nat.reduceMul, Nat.reduceSub, isV, opA, grdO, grd, Z41, Int.reduceLT, Int.reduceLE, Int.reduceToNat, builtinP, builtinA, changes, fieldAddrA, resA, tupled, ↓reduceIte, Nat.reduceEqDiff, Nat.reduceLT, Z70, Int.reduceEq]
    refine ⟨_, rfl, ?_⟩
    cases l with
    | nil => simp at h0
    | cons a l => simp
  · rintro i ⟨t, nt, σ', c⟩ hi ⟨rfl, rfl, hil, g0, g4, m, g3, hm⟩
    by_cases hlt : i + 1 < l.length
    · have hlt' : (i : Int) + 1 < (l.length : Int) := by omega
      obtain ⟨a, ha, hla⟩ := (hv []).at (C := cfg) sh35 sz5 ag5 .i64 (i + 1) (by rw [ints_len]; exact hlt)
      have ha' : indexAddrA cfg 35 x (.i .i64 ((i : Int) + 1)) = some a := ha
      have hl1 := fun τ => hla τ _ (hv τ)
      simp only [ints_get' hlt] at hl1
      generalize hq : l.getD (i + 1) 0 = q at hl1
      have hm' : decide ((if m < q then q else m) ≤ 4) = (l.take (i + 1 + 1)).all fun x => decide (x ≤ 4) := by
        have ht : l.take (i + 1 + 1) = l.take (i + 1) ++ [q] := by
          rw [List.take_add_one, List.getElem?_eq_getElem hlt, ← hq, List.getD_eq_getElem?_getD, List.getElem?_eq_getElem hlt]; rfl
        rw [ht, List.all_append, ← hm]
        rw [Bool.eq_iff_iff]
        simp
        split <;> omega
      simp +contextual (disch := first | omega | exact rfl | decide | exact kpF (by decide) | exact kpT (by decide) | assumption | exact Z2z | exact Z30 | exact Z32 | exact Z31 | exact Z33 | exact Z34 | (simp only [ZI] <;> omega) | simp only [ZK] | (simp only [ZL] <;> assumption)) only [ZH, SOp, GOp, ↓Z1c, Int.reduceAdd, Int.reduceSub, Int.reduceMul, Int.reduceNeg, accs, touch, touchM, okPair, Nat.reduceAdd, Nat.reduceLeDiff, Nat.reduceMul, Nat.reduceSub, isV, opA, grdO, grd, Z41, Int.reduceLT, Int.reduceLE, Int.reduceToNat, builtinP, builtinA, changes, fieldAddrA, resA, tupled, ↓reduceIte, Nat.reduceEqDiff, Nat.reduceLT, Z70, Int.reduceEq, Y3, Y9, Y35, g0, g3, g4, l1, hlt', ha', hl1]
      exact ⟨by omega, hlt, rfl, _, rfl, hm'⟩
    · have hi' : i + 1 = l.length := by omega
      have hf : ((i : Int) + 1 < (l.length : Int)) = False := eq_false (by omega)
      simp +contextual (disch := first | omega | exact rfl | decide | exact kpF (by decide) | exact kpT (by decide) | assumption | exact Z2z | exact Z30 | exact Z32 | exact Z31 | exact Z33 | exact Z34 | (simp only [ZI] <;> omega) | simp only [ZK] | (simp only [ZL] <;> assumption)) only [ZH, SOp, GOp, ↓Z1c, Int.reduceAdd, Int.reduceSub, Int.reduceMul, Int.reduceNeg, accs, touch, touchM, okPair, Nat.reduceAdd, Nat.reduceLeDiff, Nat.reduceMul, Nat.reduceSub, isV, opA, grdO, grd, Z41, Int.reduceLT, Int.reduceLE, Int.reduceToNat, builtinP, builtinA, changes, fieldAddrA, resA, tupled, ↓reduceIte, Nat.reduceEqDiff, Nat.reduceLT, Z70, Int.reduceEq, Y3, Y9, Y35, g0, g3, g4, l1, hf, DoneP_ret, DoneP_normal]
      rw [hi', List.take_length] at hm
      exact ⟨m, rfl, hm⟩
end Go.Am.R2

/- Volumes: is the space's table formed, both ways. -/
namespace Go.Am.R2
open Go.Proofs
set_option maxRecDepth 100000
set_option linter.unusedSimpArgs false
set_option linter.unusedVariables false
variable {σ : List O} {p : List Nat}
theorem spaceB_iff {s : SpaceR} : spaceB s = true ↔ 1 ≤ s.size ∧ s.size ≤ 2000 ∧ (s.sl.length : Int) = 2 * s.size ∧ 0 ≤ s.at0 ∧ s.at0 + s.size ≤ s.at1 ∧ s.at1 + s.size ≤ 4096 ∧ (s.sl.all fun x => decide (x ≤ 4)) = true := by
  unfold spaceB
  simp only [Bool.and_eq_true, decide_eq_true_eq, and_assoc]
theorem spaceB_no {s : SpaceR} (h : ¬ (1 ≤ s.size ∧ s.size ≤ 2000 ∧ (s.sl.length : Int) = 2 * s.size ∧ 0 ≤ s.at0 ∧ s.at0 + s.size ≤ s.at1 ∧ s.at1 + s.size ≤ 4096)) : spaceB s = false := by
  cases hs : spaceB s with
  | false => rfl
  | true =>
    obtain ⟨a, b, c, d, e, f, _⟩ := spaceB_iff.1 hs
    exact absurd ⟨a, b, c, d, e, f⟩ h
theorem space_ok (s : SpaceR) (h : s.ok) : runF cfg 178 [.agg s.v] σ p = some (.b (spaceB s), σ) := by
  have hlen : ∀ τ, lenA cfg 35 τ s.st = some (.i .i64 s.sl.length) := fun τ => by
    have := (h.sv.view τ).len (C := cfg) (t := 35) sh35; rwa [ints_len] at this
  have o1 := h.sv.one
  have hb := h.b
  by_cases h1 : s.size < 1
  · rw [spaceB_no (by omega)]
    refine run_done rfl rfl Tryz.func178 rfl ?_
    simp +contextual (disch := first | omega | exact rfl | decide | exact kpF (by decide) | exact kpT (by decide) | assumption | exact Z2z | exact Z30 | exact Z32 | exact Z31 | exact Z33 | exact Z34 | (simp only [ZI] <;> omega) | simp only [ZK] | (simp only [ZL] <;> assumption)) only [Tryz.f178, ZH, SOp, GOp, ↓Z1c, Int.reduceAdd, Int.reduceSub, Int.reduceMul, Int.reduceNeg, accs, touch, touchM, okPair, Nat.reduceAdd, Nat.reduceLeDiff, Nat.reduceMul, Nat.reduceSub, isV, opA, grdO, grd, Z41, Int.reduceLT, Int.reduceLE, Int.reduceToNat, builtinP, builtinA, changes, fieldAddrA, resA, tupled, ↓reduceIte, Nat.reduceEqDiff, Nat.reduceLT, Z70, Int.reduceEq, Y3, Y34, Y35, Y37, SpaceR.v, o1, hlen, h1]
  by_cases h2 : 2000 < s.size
  · rw [spaceB_no (by omega)]
    refine run_done rfl rfl Tryz.func178 rfl ?_
    simp +contextual (disch := first | omega | exact rfl | decide | exact kpF (by decide) | exact kpT (by decide) | assumption | exact Z2z | exact Z30 | exact Z32 | exact Z31 | exact Z33 | exact Z34 | (simp only [ZI] <;> omega) | simp only [ZK] | (simp only [ZL] <;> assumption)) only [Tryz.f178, ZH, SOp, GOp, ↓Z1c, Int.reduceAdd, Int.reduceSub, Int.reduceMul, Int.reduceNeg, accs, touch, touchM, okPair, Nat.reduceAdd, Nat.reduceLeDiff, Nat.reduceMul, Nat.reduceSub, isV, opA, grdO, grd, Z41, Int.reduceLT, Int.reduceLE, Int.reduceToNat, builtinP, builtinA, changes, fieldAddrA, resA, tupled, ↓reduceIte, Nat.reduceEqDiff, Nat.reduceLT, Z70, Int.reduceEq, Y3, Y34, Y35, Y37, SpaceR.v, o1, hlen, h1, h2]
  by_cases h3 : (s.sl.length : Int) = 2 * s.size
  case neg =>
    rw [spaceB_no (by omega)]
    refine run_done rfl rfl Tryz.func178 rfl ?_
    simp +contextual (disch := first | omega | exact rfl | decide | exact kpF (by decide) | exact kpT (by decide) | assumption | exact Z2z | exact Z30 | exact Z32 | exact Z31 | exact Z33 | exact Z34 | (simp only [ZI] <;> omega) | simp only [ZK] | (simp only [ZL] <;> assumption)) only [Tryz.f178, ZH, SOp, GOp, ↓Z1c, Int.reduceAdd, Int.reduceSub, Int.reduceMul, Int.reduceNeg, accs, touch, touchM, okPair, Nat.reduceAdd, Nat.reduceLeDiff, Nat.reduceMul, Nat.reduceSub, isV, opA, grdO, grd, Z41, Int.reduceLT, Int.reduceLE, Int.reduceToNat, builtinP, builtinA, changes, fieldAddrA, resA, tupled, ↓reduceIte, Nat.reduceEqDiff, Nat.reduceLT, Z70, Int.reduceEq, Y3, Y34, Y35, Y37, SpaceR.v, o1, hlen, h1, h2, h3]
  by_cases h4 : s.at0 < 0
  · rw [spaceB_no (by omega)]
    refine run_done rfl rfl Tryz.func178 rfl ?_
    simp +contextual (disch := first | omega | exact rfl | decide | exact kpF (by decide) | exact kpT (by decide) | assumption | exact Z2z | exact Z30 | exact Z32 | exact Z31 | exact Z33 | exact Z34 | (simp only [ZI] <;> omega) | simp only [ZK] | (simp only [ZL] <;> assumption)) only [Tryz.f178, ZH, SOp, GOp, ↓Z1c, Int.reduceAdd, Int.reduceSub, Int.reduceMul, Int.reduceNeg, accs, touch, touchM, okPair, Nat.reduceAdd, Nat.reduceLeDiff, Nat.reduceMul, Nat.reduceSub, isV, opA, grdO, grd, Z41, Int.reduceLT, Int.reduceLE, Int.reduceToNat, builtinP, builtinA, changes, fieldAddrA, resA, tupled, ↓reduceIte, Nat.reduceEqDiff, Nat.reduceLT, Z70, Int.reduceEq, Y3, Y34, Y35, Y37, SpaceR.v, o1, hlen, h1, h2, h3, h4]
  by_cases h5 : s.at1 < 0
  · rw [spaceB_no (by omega)]
    refine run_done rfl rfl Tryz.func178 rfl ?_
    simp +contextual (disch := first | omega | exact rfl | decide | exact kpF (by decide) | exact kpT (by decide) | assumption | exact Z2z | exact Z30 | exact Z32 | exact Z31 | exact Z33 | exact Z34 | (simp only [ZI] <;> omega) | simp only [ZK] | (simp only [ZL] <;> assumption)) only [Tryz.f178, ZH, SOp, GOp, ↓Z1c, Int.reduceAdd, Int.reduceSub, Int.reduceMul, Int.reduceNeg, accs, touch, touchM, okPair, Nat.reduceAdd, Nat.reduceLeDiff, Nat.reduceMul, Nat.reduceSub, isV, opA, grdO, grd, Z41, Int.reduceLT, Int.reduceLE, Int.reduceToNat, builtinP, builtinA, changes, fieldAddrA, resA, tupled, ↓reduceIte, Nat.reduceEqDiff, Nat.reduceLT, Z70, Int.reduceEq, Y3, Y34, Y35, Y37, SpaceR.v, o1, hlen, h1, h2, h3, h4, h5]
  by_cases h6 : 4096 - s.size < s.at1
  · rw [spaceB_no (by omega)]
    refine run_done rfl rfl Tryz.func178 rfl ?_
    simp +contextual (disch := first | omega | exact rfl | decide | exact kpF (by decide) | exact kpT (by decide) | assumption | exact Z2z | exact Z30 | exact Z32 | exact Z31 | exact Z33 | exact Z34 | (simp only [ZI] <;> omega) | simp only [ZK] | (simp only [ZL] <;> assumption)) only [Tryz.f178, ZH, SOp, GOp, ↓Z1c, Int.reduceAdd, Int.reduceSub, Int.reduceMul, Int.reduceNeg, accs, touch, touchM, okPair, Nat.reduceAdd, Nat.reduceLeDiff, Nat.reduceMul, Nat.reduceSub, isV, opA, grdO, grd, Z41, Int.reduceLT, Int.reduceLE, Int.reduceToNat, builtinP, builtinA, changes, fieldAddrA, resA, tupled, ↓reduceIte, Nat.reduceEqDiff, Nat.reduceLT, Z70, Int.reduceEq, Y3, Y34, Y35, Y37, SpaceR.v, o1, hlen, h1, h2, h3, h4, h5, h6]
  by_cases h7 : s.at1 - s.size < s.at0
  · rw [spaceB_no (by omega)]
    refine run_done rfl rfl Tryz.func178 rfl ?_
    simp +contextual (disch := first | omega | exact rfl | decide | exact kpF (by decide) | exact kpT (by decide) | assumption | exact Z2z | exact Z30 | exact Z32 | exact Z31 | exact Z33 | exact Z34 | (simp only [ZI] <;> omega) | simp only [ZK] | (simp only [ZL] <;> assumption)) only [Tryz.f178, ZH, SOp, GOp, ↓Z1c, Int.reduceAdd, Int.reduceSub, Int.reduceMul, Int.reduceNeg, accs, touch, touchM, okPair, Nat.reduceAdd, Nat.reduceLeDiff, Nat.reduceMul, Nat.reduceSub, isV, opA, grdO, grd, Z41, Int.reduceLT, Int.reduceLE, Int.reduceToNat, builtinP, builtinA, changes, fieldAddrA, resA, tupled, ↓reduceIte, Nat.reduceEqDiff, Nat.reduceLT, Z70, Int.reduceEq, Y3, Y34, Y35, Y37, SpaceR.v, o1, hlen, h1, h2, h3, h4, h5, h6, h7]
  have hB : spaceB s = s.sl.all fun x => decide (x ≤ 4) := by
    rw [Bool.eq_iff_iff, spaceB_iff]
    exact ⟨fun q => q.2.2.2.2.2.2, fun q => ⟨by omega, by omega, h3, by omega, by omega, by omega, q⟩⟩
  refine run_done rfl rfl Tryz.func178 rfl ?_
  obtain ⟨m, hm, hm2⟩ := max_ok (σ := σ ++ [.cells (0 :: p) s.v]) (p := 1 :: p) s.sl (by omega) hb (fun τ => h.sv.view τ)
  simp only [SpaceR.v] at hm
  simp +contextual (disch := first | omega | exact rfl | decide | exact kpF (by decide) | exact kpT (by decide) | assumption | exact Z2z | exact Z30 | exact Z32 | exact Z31 | exact Z33 | exact Z34 | (simp only [ZI] <;> omega) | simp only [ZK] | (simp only [ZL] <;> assumption)) only [Tryz.f178, ZH, SOp, GOp, ↓Z1c, Int.reduceAdd, Int.reduceSub, Int.reduceMul, Int.reduceNeg, accs, touch, touchM, okPair, Nat.reduceAdd, Nat.reduceLeDiff, Nat.reduceMul, Nat.reduceSub, isV, opA, grdO, grd, Z41, Int.reduceLT, Int.reduceLE, Int.reduceToNat, builtinP, builtinA, changes, fieldAddrA, resA, tupled, ↓reduceIte, Nat.reduceEqDiff, Nat.reduceLT, Z70, Int.reduceEq, Y3, Y34, Y35, Y37, SpaceR.v, o1, hlen, h1, h2, h3, h4, h5, h6, h7, hm]
  rw [hm2, ← hB]
theorem space7_ok (s : SpaceR) (h : s.ok) : runF cfg 27 [.agg s.v] σ p = some (.b (spaceB s), σ) := by
  have hlen : ∀ τ, lenA cfg 35 τ s.st = some (.i .i64 s.sl.length) := fun τ => by
    have := (h.sv.view τ).len (C := cfg) (t := 35) sh35; rwa [ints_len] at this
  have o1 := h.sv.one
  have hb := h.b
  by_cases h1 : s.size < 1
  · rw [spaceB_no (by omega)]
    refine run_done rfl rfl Tryz.func27 rfl ?_
    simp +contextual (disch := first | omega | exact rfl | decide | exact kpF (by decide) | exact kpT (by decide) | assumption | exact Z2z | exact Z30 | exact Z32 | exact Z31 | exact Z33 | exact Z34 | (simp only [ZI] <;> omega) | simp only [ZK] | (simp only [ZL] <;> assumption)) only [Tryz.f27, ZH, SOp, GOp, ↓Z1c, Int.reduceAdd, Int.reduceSub, Int.reduceMul, Int.reduceNeg, accs, touch, touchM, okPair, Nat.reduceAdd, Nat.reduceLeDiff, Nat.reduceMul, Nat.reduceSub, isV, opA, grdO, grd, Z41, Int.reduceLT, Int.reduceLE, Int.reduceToNat, builtinP, builtinA, changes, fieldAddrA, resA, tupled, ↓reduceIte, Nat.reduceEqDiff, Nat.reduceLT, Z70, Int.reduceEq, Y3, Y34, Y35, Y37, SpaceR.v, o1, hlen, h1]
  by_cases h2 : 2000 < s.size
  · rw [spaceB_no (by omega)]
    refine run_done rfl rfl Tryz.func27 rfl ?_
    simp +contextual (disch := first | omega | exact rfl | decide | exact kpF (by decide) | exact kpT (by decide) | assumption | exact Z2z | exact Z30 | exact Z32 | exact Z31 | exact Z33 | exact Z34 | (simp only [ZI] <;> omega) | simp only [ZK] | (simp only [ZL] <;> assumption)) only [Tryz.f27, ZH, SOp, GOp, ↓Z1c, Int.reduceAdd, Int.reduceSub, Int.reduceMul, Int.reduceNeg, accs, touch, touchM, okPair, Nat.reduceAdd, Nat.reduceLeDiff, Nat.reduceMul, Nat.reduceSub, isV, opA, grdO, grd, Z41, Int.reduceLT, Int.reduceLE, Int.reduceToNat, builtinP, builtinA, changes, fieldAddrA, resA, tupled, ↓reduceIte, Nat.reduceEqDiff, Nat.reduceLT, Z70, Int.reduceEq, Y3, Y34, Y35, Y37, SpaceR.v, o1, hlen, h1, h2]
  by_cases h4 : s.at0 < 0
  · rw [spaceB_no (by omega)]
    refine run_done rfl rfl Tryz.func27 rfl ?_
    simp +contextual (disch := first | omega | exact rfl | decide | exact kpF (by decide) | exact kpT (by decide) | assumption | exact Z2z | exact Z30 | exact Z32 | exact Z31 | exact Z33 | exact Z34 | (simp only [ZI] <;> omega) | simp only [ZK] | (simp only [ZL] <;> assumption)) only [Tryz.f27, ZH, SOp, GOp, ↓Z1c, Int.reduceAdd, Int.reduceSub, Int.reduceMul, Int.reduceNeg, accs, touch, touchM, okPair, Nat.reduceAdd, Nat.reduceLeDiff, Nat.reduceMul, Nat.reduceSub, isV, opA, grdO, grd, Z41, Int.reduceLT, Int.reduceLE, Int.reduceToNat, builtinP, builtinA, changes, fieldAddrA, resA, tupled, ↓reduceIte, Nat.reduceEqDiff, Nat.reduceLT, Z70, Int.reduceEq, Y3, Y34, Y35, Y37, SpaceR.v, o1, hlen, h1, h2, h4]
  by_cases h8 : 4096 < s.at0
  · rw [spaceB_no (by omega)]
    refine run_done rfl rfl Tryz.func27 rfl ?_
    simp +contextual (disch := first | omega | exact rfl | decide | exact kpF (by decide) | exact kpT (by decide) | assumption | exact Z2z | exact Z30 | exact Z32 | exact Z31 | exact Z33 | exact Z34 | (simp only [ZI] <;> omega) | simp only [ZK] | (simp only [ZL] <;> assumption)) only [Tryz.f27, ZH, SOp, GOp, ↓Z1c, Int.reduceAdd, Int.reduceSub, Int.reduceMul, Int.reduceNeg, accs, touch, touchM, okPair, Nat.reduceAdd, Nat.reduceLeDiff, Nat.reduceMul, Nat.reduceSub, isV, opA, grdO, grd, Z41, Int.reduceLT, Int.reduceLE, Int.reduceToNat, builtinP, builtinA, changes, fieldAddrA, resA, tupled, ↓reduceIte, Nat.reduceEqDiff, Nat.reduceLT, Z70, Int.reduceEq, Y3, Y34, Y35, Y37, SpaceR.v, o1, hlen, h1, h2, h4, h8]
  by_cases h9 : s.at1 < s.at0 + s.size
  · rw [spaceB_no (by omega)]
    refine run_done rfl rfl Tryz.func27 rfl ?_
    simp +contextual (disch := first | omega | exact rfl | decide | exact kpF (by decide) | exact kpT (by decide) | assumption | exact Z2z | exact Z30 | exact Z32 | exact Z31 | exact Z33 | exact Z34 | (simp only [ZI] <;> omega) | simp only [ZK] | (simp only [ZL] <;> assumption)) only [Tryz.f27, ZH, SOp, GOp, ↓Z1c, Int.reduceAdd, Int.reduceSub, Int.reduceMul, Int.reduceNeg, accs, touch, touchM, okPair, Nat.reduceAdd, Nat.reduceLeDiff, Nat.reduceMul, Nat.reduceSub, isV, opA, grdO, grd, Z41, Int.reduceLT, Int.reduceLE, Int.reduceToNat, builtinP, builtinA, changes, fieldAddrA, resA, tupled, ↓reduceIte, Nat.reduceEqDiff, Nat.reduceLT, Z70, Int.reduceEq, Y3, Y34, Y35, Y37, SpaceR.v, o1, hlen, h1, h2, h4, h8, h9]
  by_cases h6 : 4096 - s.size < s.at1
  · rw [spaceB_no (by omega)]
    refine run_done rfl rfl Tryz.func27 rfl ?_
    simp +contextual (disch := first | omega | exact rfl | decide | exact kpF (by decide) | exact kpT (by decide) | assumption | exact Z2z | exact Z30 | exact Z32 | exact Z31 | exact Z33 | exact Z34 | (simp only [ZI] <;> omega) | simp only [ZK] | (simp only [ZL] <;> assumption)) only [Tryz.f27, ZH, SOp, GOp, ↓Z1c, Int.reduceAdd, Int.reduceSub, Int.reduceMul, Int.reduceNeg, accs, touch, touchM, okPair, Nat.reduceAdd, Nat.reduceLeDiff, Nat.reduceMul, Nat.reduceSub, isV, opA, grdO, grd, Z41, Int.reduceLT, Int.reduceLE, Int.reduceToNat, builtinP, builtinA, changes, fieldAddrA, resA, tupled, ↓reduceIte, Nat.reduceEqDiff, Nat.reduceLT, Z70, Int.reduceEq, Y3, Y34, Y35, Y37, SpaceR.v, o1, hlen, h1, h2, h4, h8, h9, h6]
  by_cases h3 : (s.sl.length : Int) = 2 * s.size
  case neg =>
    rw [spaceB_no (by omega)]
    refine run_done rfl rfl Tryz.func27 rfl ?_
    simp +contextual (disch := first | omega | exact rfl | decide | exact kpF (by decide) | exact kpT (by decide) | assumption | exact Z2z | exact Z30 | exact Z32 | exact Z31 | exact Z33 | exact Z34 | (simp only [ZI] <;> omega) | simp only [ZK] | (simp only [ZL] <;> assumption)) only [Tryz.f27, ZH, SOp, GOp, ↓Z1c, Int.reduceAdd, Int.reduceSub, Int.reduceMul, Int.reduceNeg, accs, touch, touchM, okPair, Nat.reduceAdd, Nat.reduceLeDiff, Nat.reduceMul, Nat.reduceSub, isV, opA, grdO, grd, Z41, Int.reduceLT, Int.reduceLE, Int.reduceToNat, builtinP, builtinA, changes, fieldAddrA, resA, tupled, ↓reduceIte, Nat.reduceEqDiff, Nat.reduceLT, Z70, Int.reduceEq, Y3, Y34, Y35, Y37, SpaceR.v, o1, hlen, h1, h2, h4, h8, h9, h6, h3]
  have hB : spaceB s = s.sl.all fun x => decide (x ≤ 4) := by
    rw [Bool.eq_iff_iff, spaceB_iff]
    exact ⟨fun q => q.2.2.2.2.2.2, fun q => ⟨by omega, by omega, h3, by omega, by omega, by omega, q⟩⟩
  rw [hB]
  refine run_done rfl rfl Tryz.func27 rfl ?_
  simp +contextual (disch := first | omega | exact rfl | decide | exact kpF (by decide) | exact kpT (by decide) | assumption | exact Z2z | exact Z30 | exact Z32 | exact Z31 | exact Z33 | exact Z34 | (simp only [ZI] <;> omega) | simp only [ZK] | (simp only [ZL] <;> assumption)) only [Tryz.f27, ZH, SOp, GOp, ↓Z1c, Int.reduceAdd, Int.reduceSub, Int.reduceMul, Int.reduceNeg, accs, touch, touchM, okPair, Nat.reduceAdd, Nat.reduceLeDiff, Nat.reduceMul, Nat.reduceSub, isV, opA, grdO, grd, Z41, Int.reduceLT, Int.reduceLE, Int.reduceToNat, builtinP, builtinA, changes, fieldAddrA, resA, tupled, ↓reduceIte, Nat.reduceEqDiff, Nat.reduceLT, Z70, Int.reduceEq, Y3, Y34, Y35, Y37, SpaceR.v, o1, hlen, h1, h2, h4, h8, h9, h6, h3]
  refine Wq.up (fun i t => t.nt = 67 ∧ t.σ = σ ++ [.cells (0 :: p) s.v] ∧ t.t.get 1 = some (.ptr σ.length (0 :: p) 0) ∧ t.t.get 3 = some (.i .i64 (i : Nat)) ∧ ∀ j, j < i → s.sl.getD j 0 ≤ 4) s.sl.length ?_ ?_
  · refine ⟨rfl, rfl, ?_⟩
    simp +contextual (disch := first | omega | exact rfl | decide | exact kpF (by decide) | exact kpT (by decide) | assumption | exact Z2z | exact Z30 | exact Z32 | exact Z31 | exact Z33 | exact Z34 | (simp only [ZI] <;> omega) | simp only [ZK] | (simp only [ZL] <;> assumption)) only [ZH, SOp, GOp, ↓Z1c, Int.reduceAdd, Int.reduceSub, Int.reduceMul, Int.reduceNeg, accs, touch, touchM, okPair, Nat.reduceAdd, Nat.reduceLeDiff, Nat.reduceMul, Nat.reduceSub, isV, opA, grdO, grd, Z41, Int.reduceLT, Int.reduceLE, Int.reduceToNat, builtinP, builtinA, changes, fieldAddrA, resA, tupled, ↓reduceIte, Nat.reduceEqDiff, Nat.reduceLT, Z70, Int.reduceEq]
    exact fun j hj => absurd hj (by omega)
  · rintro i ⟨t, nt, σ', c⟩ hi ⟨rfl, rfl, g1, g3, hno⟩
    simp only [SpaceR.v] at g1 g3 ⊢
    by_cases hlt : i < s.sl.length
    · have hlt' : (i : Int) < (s.sl.length : Int) := by omega
      obtain ⟨a, ha, hla⟩ := (h.sv.view []).at (C := cfg) sh35 sz5 ag5 .i64 i (by rw [ints_len]; exact hlt)
      have hl1 := fun τ => hla τ _ (h.sv.view τ)
      simp only [ints_get' hlt] at hl1
      by_cases hq : 4 < s.sl.getD i 0
      · have hall : (s.sl.all fun x => decide (x ≤ 4)) = false := by
          rw [List.all_eq_false]
          refine ⟨s.sl[i], List.getElem_mem hlt, ?_⟩
          rw [List.getD_eq_getElem?_getD, List.getElem?_eq_getElem hlt] at hq
          simp at hq ⊢; omega
        simp +contextual (disch := first | omega | exact rfl | decide | exact kpF (by decide) | exact kpT (by decide) | assumption | exact Z2z | exact Z30 | exact Z32 | exact Z31 | exact Z33 | exact Z34 | (simp only [ZI] <;> omega) | simp only [ZK] | (simp only [ZL] <;> assumption)) only [ZH, SOp, GOp, ↓Z1c, Int.reduceAdd, Int.reduceSub, Int.reduceMul, Int.reduceNeg, accs, touch, touchM, okPair, Nat.reduceAdd, Nat.reduceLeDiff, Nat.reduceMul, Nat.reduceSub, isV, opA, grdO, grd, Z41, Int.reduceLT, Int.reduceLE, Int.reduceToNat, builtinP, builtinA, changes, fieldAddrA, resA, tupled, ↓reduceIte, Nat.reduceEqDiff, Nat.reduceLT, Z70, Int.reduceEq, Y3, Y34, Y35, Y37, g1, g3, hlen, hlt', ha, hl1, hq, hall]
      · simp +contextual (disch := first | omega | exact rfl | decide | exact kpF (by decide) | exact kpT (by decide) | assumption | exact Z2z | exact Z30 | exact Z32 | exact Z31 | exact Z33 | exact Z34 | (simp only [ZI] <;> omega) | simp only [ZK] | (simp only [ZL] <;> assumption)) only [ZH, SOp, GOp, ↓Z1c, Int.reduceAdd, Int.reduceSub, Int.reduceMul, Int.reduceNeg, accs, touch, touchM, okPair, Nat.reduceAdd, Nat.reduceLeDiff, Nat.reduceMul, Nat.reduceSub, isV, opA, grdO, grd, Z41, Int.reduceLT, Int.reduceLE, Int.reduceToNat, builtinP, builtinA, changes, fieldAddrA, resA, tupled, ↓reduceIte, Nat.reduceEqDiff, Nat.reduceLT, Z70, Int.reduceEq, Y3, Y34, Y35, Y37, g1, g3, hlen, hlt', ha, hl1, hq]
        refine ⟨hlt, rfl, fun j hj => ?_⟩
        by_cases he : j = i
        · subst he; omega
        · exact hno j (by omega)
    · have hi' : i = s.sl.length := by omega
      subst hi'
      have hall : (s.sl.all fun x => decide (x ≤ 4)) = true := by
        rw [List.all_eq_true]
        intro x hx
        obtain ⟨j, hj, rfl⟩ := List.mem_iff_getElem.1 hx
        have := hno j hj
        rw [List.getD_eq_getElem?_getD, List.getElem?_eq_getElem hj] at this
        simpa using this
      simp +contextual (disch := first | omega | exact rfl | decide | exact kpF (by decide) | exact kpT (by decide) | assumption | exact Z2z | exact Z30 | exact Z32 | exact Z31 | exact Z33 | exact Z34 | (simp only [ZI] <;> omega) | simp only [ZK] | (simp only [ZL] <;> assumption)) only [ZH, SOp, GOp, ↓Z1c, Int.reduceAdd, Int.reduceSub, Int.reduceMul, Int.reduceNeg, accs, touch, touchM, okPair, Nat.reduceAdd, Nat.reduceLeDiff, Nat.reduceMul, Nat.reduceSub, isV, opA, grdO, grd, Z41, Int.reduceLT, Int.reduceLE, Int.reduceToNat, builtinP, builtinA, changes, fieldAddrA, resA, tupled, ↓reduceIte, Nat.reduceEqDiff, Nat.reduceLT, Z70, Int.reduceEq, Y3, Y34, Y35, Y37, g1, g3, hlen, Int.lt_irrefl, hall]
end Go.Am.R2

/- Volumes: how many blocks are used, both ways; where the regions lie. -/
namespace Go.Am.R2
open Go.Proofs
set_option maxRecDepth 100000
set_option linter.unusedSimpArgs false
set_option linter.unusedVariables false
variable {σ : List O} {p : List Nat}
def usedB (x : Int) : Bool := decide (x = 1) || decide (x = 2)
def usedI (s : SpaceR) : Int := if spaceB s then ((s.sl.filter usedB).length : Nat) else 0
end Go.Am.R2

/- Sums: a word turned, and mixed. -/
namespace Go.Am.R2
open Go.Proofs
set_option maxRecDepth 100000
set_option linter.unusedSimpArgs false
set_option linter.unusedVariables false
variable {σ : List O} {p : List Nat}
theorem conv_int {C : Cfg} {a b : TypeId} {σ : List O} {k k' : IntKind} {n : Int} (h0 : known C a = true) (h1 : C.shape a = .int k) (h2 : C.shape b = .int k') : convertP C a b σ (.i k n) = some (.i k' (k'.wrap n)) := by
  simp [convertP, h0, h1, h2]
noncomputable def rot (x s : Nat) : Nat := Nat.lor (Nat.mod (Nat.shiftLeft x s) 4294967296) (Nat.shiftRight x (Nat.sub 32 s))
theorem rot_run (x : Int) (k s s' : Int) (h1 : IntKind.u64.wrap ((BitVec.ofInt IntKind.u64.bits (IntKind.u64.wrap k) &&& BitVec.ofInt IntKind.u64.bits 31).toNat) = s) (h2 : IntKind.u64.wrap (32 - s) = s') (h3 : 0 ≤ s) (h4 : 0 ≤ s') (h5 : min s.toNat IntKind.u32.bits = s.toNat) (h6 : min s'.toNat IntKind.u32.bits = s'.toNat) :
    runF cfg 236 [.i .u32 x, .i .i64 k] σ p = some (.i .u32 (IntKind.u32.wrap ((BitVec.ofInt IntKind.u32.bits (IntKind.u32.wrap (x * 2 ^ s.toNat)) ||| BitVec.ofInt IntKind.u32.bits (x.fdiv (2 ^ s'.toNat))).toNat)), σ) := by
  refine run_done rfl rfl Tryz.func236 rfl ?_
  have cv := fun (τ : List O) n => conv_int (C := cfg) (σ := τ) (n := n) (k := .i64) kn3 sh3 sh197
  simp +contextual (disch := first | omega | exact rfl | decide | exact kpF (by decide) | exact kpT (by decide) | assumption | exact Z2z | exact Z30 | exact Z32 | exact Z31 | exact Z33 | exact Z34 | (simp only [ZI] <;> omega) | simp only [ZK] | (simp only [ZL] <;> assumption)) only [Tryz.f236, ZH, SOp, GOp, ↓Z1c, Int.reduceAdd, Int.reduceSub, Int.reduceMul, Int.reduceNeg, accs, touch, touchM, okPair, Nat.reduceAdd, Nat.reduceLeDiff, Nat.reduceMul, Nat.reduceSub, isV, opA, grdO, grd, Z41, Int.reduceLT, Int.reduceLE, Int.reduceToNat, builtinP, builtinA, changes, fieldAddrA, resA, tupled, ↓reduceIte, Nat.reduceEqDiff, Nat.reduceLT, Z70, Int.reduceEq, Y3, Y197, cv, h1, h2, h3, h4, h5, h6, binA_and, binA_or, binA_shl h3, binA_shr h4]
theorem or_u32 {x y : Nat} (hx : x < 4294967296) (hy : y < 4294967296) : IntKind.u32.wrap ((BitVec.ofInt IntKind.u32.bits (x : Int) ||| BitVec.ofInt IntKind.u32.bits (y : Int)).toNat : Nat) = ((Nat.lor x y : Nat) : Int) := by
  have e : (BitVec.ofInt IntKind.u32.bits (x : Int) ||| BitVec.ofInt IntKind.u32.bits (y : Int)).toNat = Nat.lor x y := by
    simp only [BitVec.ofInt_natCast, BitVec.toNat_or, BitVec.toNat_ofNat]
    rw [Nat.mod_eq_of_lt (show x < 2 ^ IntKind.u32.bits from hx), Nat.mod_eq_of_lt (show y < 2 ^ IntKind.u32.bits from hy)]; rfl
  rw [e, uwrap (k := .u32) (by decide)]
  exact Nat.or_lt_two_pow (n := 32) hx hy
theorem rot_fin (x : Nat) (hx : x < 4294967296) (k : Int) (s : Nat) (h1 : IntKind.u64.wrap ((BitVec.ofInt IntKind.u64.bits (IntKind.u64.wrap k) &&& BitVec.ofInt IntKind.u64.bits 31).toNat) = (s : Int)) (h2 : s ≤ 32) :
    runF cfg 236 [.i .u32 (x : Int), .i .i64 k] σ p = some (.i .u32 ((rot x s : Nat) : Int), σ) := by
  have e2 : (32 : Int) - (s : Int) = ((32 - s : Nat) : Int) := by omega
  have hm : ∀ n : Nat, n ≤ 32 → min (n : Int).toNat IntKind.u32.bits = (n : Int).toNat := fun n hn => Nat.min_eq_left (by show n ≤ 32; exact hn)
  rw [rot_run (x : Int) k s ((32 - s : Nat) : Int) h1 (by rw [e2]; exact uwrap (k := .u64) (by decide) _ (by show _ < 18446744073709551616; omega)) (by omega) (by omega) (hm _ h2) (hm _ (by omega))]
  have a1 : IntKind.u32.wrap ((x : Int) * 2 ^ (s : Int).toNat) = ((Nat.mod (Nat.shiftLeft x s) 4294967296 : Nat) : Int) := by
    rw [IntKind.wrap_u32]
    show _ = (((x <<< s) % 4294967296 : Nat) : Int)
    rw [Nat.shiftLeft_eq, Int.toNat_natCast, Int.natCast_emod, Int.natCast_mul, Int.natCast_pow]; rfl
  have a2 : ((x : Int).fdiv (2 ^ ((32 - s : Nat) : Int).toNat)) = ((Nat.shiftRight x (Nat.sub 32 s) : Nat) : Int) := by
    show _ = ((x >>> (32 - s) : Nat) : Int)
    rw [Nat.shiftRight_eq_div_pow, Int.fdiv_eq_ediv_of_nonneg _ (by exact_mod_cast Nat.zero_le _), Int.toNat_natCast]
    push_cast; rfl
  rw [a1, a2, or_u32 (x := Nat.mod (Nat.shiftLeft x s) 4294967296) (y := Nat.shiftRight x (Nat.sub 32 s)) (Nat.mod_lt _ (by decide)) (Nat.lt_of_le_of_lt (by show x >>> (32 - s) ≤ x; rw [Nat.shiftRight_eq_div_pow]; exact Nat.div_le_self _ _) hx)]
  rfl
theorem rot_lt {x s : Nat} (hx : x < 4294967296) : rot x s < 4294967296 :=
  Nat.or_lt_two_pow (n := 32) (Nat.mod_lt _ (by decide)) (Nat.lt_of_le_of_lt (by show x >>> (32 - s) ≤ x; rw [Nat.shiftRight_eq_div_pow]; exact Nat.div_le_self _ _) hx)
noncomputable def amount : Int → Option Nat
  | .negSucc 1 => some 30 | .negSucc 5 => some 26 | .negSucc 6 => some 25 | .negSucc 10 => some 21 | .negSucc 12 => some 19
  | .negSucc 16 => some 15 | .negSucc 17 => some 14 | .negSucc 18 => some 13 | .negSucc 21 => some 10 | .negSucc 24 => some 7
  | _ => none
theorem rot_ok (x : Nat) (hx : x < 4294967296) (k : Int) (s : Nat) (hk : amount k = some s) : runF cfg 236 [.i .u32 (x : Int), .i .i64 k] σ p = some (.i .u32 ((rot x s : Nat) : Int), σ) := by
  unfold amount at hk
  split at hk <;> cases hk <;> exact rot_fin x hx _ _ (by decide) (by decide)
theorem xor_u32 {x y : Nat} (hx : x < 4294967296) (hy : y < 4294967296) {C : Cfg} {t : TypeId} {a b : Operand} : binA C .xor t a b (.i .u32 (x : Int)) (.i .u32 (y : Int)) = some (.i .u32 ((Nat.xor x y : Nat) : Int)) := binA_xor' (k := .u32) hx hy
noncomputable def mix3 (x a b c : Nat) : Nat := Nat.xor (Nat.xor (rot x a) (rot x b)) (rot x c)
theorem mixed_ok (x : Nat) (hx : x < 4294967296) (a b c : Int) (a' b' c' : Nat) (ha : amount (IntKind.i64.wrap (-a)) = some a') (hb : amount (IntKind.i64.wrap (-b)) = some b') (hc : amount (IntKind.i64.wrap (-c)) = some c') :
    runF cfg 222 [.i .u32 (x : Int), .i .i64 a, .i .i64 b, .i .i64 c] σ p = some (.i .u32 ((mix3 x a' b' c' : Nat) : Int), σ) := by
  refine run_done rfl rfl Tryz.func222 rfl ?_
  have r1 := fun (τ : List O) q => rot_ok (σ := τ) (p := q) x hx _ _ ha
  have r2 := fun (τ : List O) q => rot_ok (σ := τ) (p := q) x hx _ _ hb
  have r3 := fun (τ : List O) q => rot_ok (σ := τ) (p := q) x hx _ _ hc
  have x1 := fun (t : TypeId) (u v : Operand) => xor_u32 (C := cfg) (t := t) (a := u) (b := v) (rot_lt (s := a') hx) (rot_lt (s := b') hx)
  have x2 := fun (t : TypeId) (u v : Operand) => xor_u32 (C := cfg) (t := t) (a := u) (b := v) (x := Nat.xor (rot x a') (rot x b')) (Nat.xor_lt_two_pow (n := 32) (rot_lt (s := a') hx) (rot_lt (s := b') hx)) (rot_lt (s := c') hx)
  have ng : ∀ a : Int, pureV cfg (Op.unary .neg (.int .i64 a)) = some (.i .i64 (IntKind.i64.wrap (-a))) := fun a => (unA_neg .i64 a).trans (by rw [Int.zero_sub])
  simp +contextual (disch := first | omega | exact rfl | decide | exact kpF (by decide) | exact kpT (by decide) | assumption | exact Z2z | exact Z30 | exact Z32 | exact Z31 | exact Z33 | exact Z34 | (simp only [ZI] <;> omega) | simp only [ZK] | (simp only [ZL] <;> assumption)) only [Tryz.f222, ZH, SOp, GOp, ↓Z1c, Int.reduceAdd, Int.reduceSub, Int.reduceMul, Int.reduceNeg, accs, touch, touchM, okPair, Nat.reduceAdd, Nat.reduceLeDiff, Nat.reduceMul, Nat.reduceSub, isV, opA, grdO, grd, Z41, Int.reduceLT, Int.reduceLE, Int.reduceToNat, builtinP, builtinA, changes, fieldAddrA, resA, tupled, ↓reduceIte, Nat.reduceEqDiff, Nat.reduceLT, Z70, Int.reduceEq, ng, r1, r2, r3, x1, x2, mix3]
end Go.Am.R2

/- The greatest of a list, told whole. -/
namespace Go.Am.R2
open Go.Proofs
set_option maxRecDepth 100000
set_option linter.unusedSimpArgs false
set_option linter.unusedVariables false
variable {σ : List O} {p : List Nat}
def maxI : List Int → Int
  | [] => 0
  | a :: l => l.foldl (fun m q => if m < q then q else m) a
theorem maxI_snoc {l : List Int} {q : Int} (h : 0 < l.length) : maxI (l ++ [q]) = if maxI l < q then q else maxI l := by
  cases l with
  | nil => simp at h
  | cons a l => simp only [maxI, List.cons_append, List.foldl_append, List.foldl_cons, List.foldl_nil]; rfl
theorem maxx_ok (l : List Int) (h0 : 0 < l.length) (hb : l.length ≤ 140737488355328) {x : V} (hv : ∀ σ, View σ x (ints .u8 l)) : runF cfg 201 [x] σ p = some (.i .u8 (maxI l), σ) := by
  suffices hs : ∃ res, runF cfg 201 [x] σ p = some res ∧ res = (.i .u8 (maxI l), σ) by
    obtain ⟨res, h1, rfl⟩ := hs
    exact h1
  refine run_doneP rfl rfl Tryz.func201 rfl ?_
  have l1 := fun τ => (hv τ).len (C := cfg) (t := 35) sh35
  simp only [ints_len] at l1
  have e0 : ((l.length : Int) < 1) = False := eq_false (by omega)
  obtain ⟨a0, ha0, hla0⟩ := (hv []).at (C := cfg) sh35 sz5 ag5 .i64 0 (by rw [ints_len]; exact h0)
  have hl0 := fun τ => hla0 τ _ (hv τ)
  have ha0' : indexAddrA cfg 35 x (.i .i64 0) = some a0 := ha0
  have hg0 : (ints .u8 l)[0]? = some (.i .u8 (l.getD 0 0)) := ints_get' h0
  simp only [hg0] at hl0
  simp +contextual (disch := first | omega | exact rfl | decide | exact kpF (by decide) | exact kpT (by decide) | assumption | exact Z2z | exact Z30 | exact Z32 | exact Z31 | exact Z33 | exact Z34 | (simp only [ZI] <;> omega) | simp only [ZK] | (simp only [ZL] <;> assumption)) only [Tryz.f201, ZH, SOp, GOp, ↓Z1c, Int.reduceAdd, Int.reduceSub, Int.reduceMul, Int.reduceNeg, accs, touch, touchM, okPair, Nat.reduceAdd, Nat.reduceLeDiff, Nat.reduceMul, Nat.reduceSub, isV, opA, grdO, grd, Z41, Int.reduceLT, Int.reduceLE, Int.reduceToNat, builtinP, builtinA, changes, fieldAddrA, resA, tupled, ↓reduceIte, Nat.reduceEqDiff, Nat.reduceLT, Z70, Int.reduceEq, Y3, Y9, Y35, l1, e0, ha0', hl0]
  refine Wq.up (fun i s => s.nt = 25 ∧ s.σ = σ ∧ i + 1 ≤ l.length ∧ s.t.get 0 = some x ∧ s.t.get 4 = some (.i .i64 ((i : Int) + 1)) ∧ ∃ m : Int, s.t.get 3 = some (.i .u8 m) ∧ m = maxI (l.take (i + 1))) (l.length - 1) ?_ ?_
  · refine ⟨rfl, rfl, by omega, ?_⟩
    simp +contextual (disch := first | omega | exact rfl | decide | exact kpF (by decide) | exact kpT (by decide) | assumption | exact Z2z | exact Z30 | exact Z32 | exact Z31 | exact Z33 | exact Z34 | (simp only [ZI] <;> omega) | simp only [ZK] | (simp only [ZL] <;> assumption)) only [ZH, SOp, GOp, ↓Z1c, Int.reduceAdd, Int.reduceSub, Int.reduceMul, Int.reduceNeg, accs, touch, touchM, okPair, Nat.reduceAdd, Nat.reduceLeDiff, Nat.reduceMul, Nat.reduceSub, isV, opA, grdO, grd, Z41, Int.reduceLT, Int.reduceLE, Int.reduceToNat, builtinP, builtinA, changes, fieldAddrA, resA, tupled, ↓reduceIte, Nat.reduceEqDiff, Nat.reduceLT, Z70, Int.reduceEq]
    refine ⟨_, rfl, ?_⟩
    cases l with
    | nil => simp at h0
    | cons a l => simp [maxI]
  · rintro i ⟨t, nt, σ', c⟩ hi ⟨rfl, rfl, hil, g0, g4, m, g3, hm⟩
    by_cases hlt : i + 1 < l.length
    · have hlt' : (i : Int) + 1 < (l.length : Int) := by omega
      obtain ⟨a, ha, hla⟩ := (hv []).at (C := cfg) sh35 sz5 ag5 .i64 (i + 1) (by rw [ints_len]; exact hlt)
      have ha' : indexAddrA cfg 35 x (.i .i64 ((i : Int) + 1)) = some a := ha
      have hl1 := fun τ => hla τ _ (hv τ)
      simp only [ints_get' hlt] at hl1
      generalize hq : l.getD (i + 1) 0 = q at hl1
      have hm' : (if m < q then q else m) = maxI (l.take (i + 1 + 1)) := by
        have ht : l.take (i + 1 + 1) = l.take (i + 1) ++ [q] := by
          rw [List.take_add_one, List.getElem?_eq_getElem hlt, ← hq, List.getD_eq_getElem?_getD, List.getElem?_eq_getElem hlt]; rfl
        rw [ht, maxI_snoc (by rw [List.length_take]; omega), ← hm]
      simp +contextual (disch := first | omega | exact rfl | decide | exact kpF (by decide) | exact kpT (by decide) | assumption | exact Z2z | exact Z30 | exact Z32 | exact Z31 | exact Z33 | exact Z34 | (simp only [ZI] <;> omega) | simp only [ZK] | (simp only [ZL] <;> assumption)) only [ZH, SOp, GOp, ↓Z1c, Int.reduceAdd, Int.reduceSub, Int.reduceMul, Int.reduceNeg, accs, touch, touchM, okPair, Nat.reduceAdd, Nat.reduceLeDiff, Nat.reduceMul, Nat.reduceSub, isV, opA, grdO, grd, Z41, Int.reduceLT, Int.reduceLE, Int.reduceToNat, builtinP, builtinA, changes, fieldAddrA, resA, tupled, ↓reduceIte, Nat.reduceEqDiff, Nat.reduceLT, Z70, Int.reduceEq, Y3, Y9, Y35, g0, g3, g4, l1, hlt', ha', hl1]
      exact ⟨by omega, hlt, rfl, _, rfl, hm'⟩
    · have hi' : i + 1 = l.length := by omega
      have hf : ((i : Int) + 1 < (l.length : Int)) = False := eq_false (by omega)
      simp +contextual (disch := first | omega | exact rfl | decide | exact kpF (by decide) | exact kpT (by decide) | assumption | exact Z2z | exact Z30 | exact Z32 | exact Z31 | exact Z33 | exact Z34 | (simp only [ZI] <;> omega) | simp only [ZK] | (simp only [ZL] <;> assumption)) only [ZH, SOp, GOp, ↓Z1c, Int.reduceAdd, Int.reduceSub, Int.reduceMul, Int.reduceNeg, accs, touch, touchM, okPair, Nat.reduceAdd, Nat.reduceLeDiff, Nat.reduceMul, Nat.reduceSub, isV, opA, grdO, grd, Z41, Int.reduceLT, Int.reduceLE, Int.reduceToNat, builtinP, builtinA, changes, fieldAddrA, resA, tupled, ↓reduceIte, Nat.reduceEqDiff, Nat.reduceLT, Z70, Int.reduceEq, Y3, Y9, Y35, g0, g3, g4, l1, hf, DoneP_ret, DoneP_normal]
      rw [hi', List.take_length] at hm
      rw [hm]
end Go.Am.R2
