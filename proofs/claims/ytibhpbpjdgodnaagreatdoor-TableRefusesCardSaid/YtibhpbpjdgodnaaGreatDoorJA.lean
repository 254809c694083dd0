/- Parts of one machine and of the walks over it, joined: K0 K0d K0e K0y K0f K0yf K0h K0yh K45 K0g K46 K47 K48 K49 K50 K51 K52. -/
import Derived.Test.YtibhpbpjdgodnaaGreatDoorChecked
import Derived.Test.YtibhpbpjdgodnaaGreatDoorAmView
import Derived.Test.YtibhpbpjdgodnaaGreatDoorAmIdx
import Derived.Test.YtibhpbpjdgodnaaGreatDoorAmHook
import Derived.Test.YtibhpbpjdgodnaaGreatDoorAmFlat
import Derived.Test.YtibhpbpjdgodnaaGreatDoorAmGuard
import Derived.Test.YtibhpbpjdgodnaaGreatDoorAmZ
import Derived.Test.YtibhpbpjdgodnaaGreatDoorAmApp
import Derived.Test.YtibhpbpjdgodnaaGreatDoorAmOwn
/- The machine over this seat's program: tables, what is asked of it. -/
namespace Go.Am.R2
open Go.Proofs
set_option linter.unusedVariables false
set_option linter.unusedSimpArgs false
def clsT : List (Nat × Nat × List (Nat × Nat)) := [(3, 1, [(3, 4)]), (4, 5, [(1, 2), (5, 2)]), (5, 5, [(1, 2), (5, 2)]), (6, 6, [(1, 2), (5, 2)]), (16, 1, [(2, 4), (2, 7), (5, 7)]), (17, 4, [(4, 2)]), (18, 3, [(5, 2), (6, 2)]), (19, 1, [(20, 15)]), (32, 3, [(3, 1)]), (36, 6, [(2, 6)]), (41, 1, [(1, 0)]), (46, 3, [(4, 1)]), (53, 1, [(9, 6)]), (53, 4, [(6, 3)]), (54, 1, [(10, 1), (10, 5), (11, 1), (11, 5), (10, 12), (11, 12), (10, 13), (11, 13), (10, 17), (11, 17)]), (56, 1, [(4, 5)]), (57, 4, [(0, 2)]), (60, 2, [(10, 1), (10, 5), (11, 1), (11, 5), (10, 12), (11, 12)]), (62, 1, [(9, 0), (9, 4), (10, 0), (10, 4)]), (70, 3, [(9, 6)]), (70, 6, [(6, 3)]), (76, 2, [(1, 0)]), (87, 1, [(1, 0)]), (100, 8, [(5, 0)]), (101, 2, [(0, 2)]), (114, 8, [(9, 4)]), (118, 2, [(24, 22)]), (122, 3, [(1, 3)]), (124, 4, [(5, 0)]), (137, 11, [(8, 5), (8, 7)]), (150, 2, [(6, 0)]), (162, 3, [(5, 6)]), (162, 9, [(9, 3)]), (167, 5, [(2, 14)]), (182, 5, [(8, 1), (8, 10)])]
def clsOf (f r : Nat) : List (Nat × Nat) := match clsT.find? (fun x => x.1 == f && x.2.1 == r) with | some x => x.2.2 | none => []
def preT : List (Nat × Nat × List Nat) := [(4, 5, [5, 5]), (5, 5, [5, 5]), (6, 6, [5, 5]), (53, 1, [9, 9]), (55, 7, [18]), (70, 3, [9, 9]), (99, 3, [13]), (104, 9, [14]), (114, 8, []), (162, 9, [12]), (182, 1, [11])]
def preOf (f r : Nat) : Option (List Nat) := (preT.find? (fun x => x.1 == f && x.2.1 == r)).map (·.2.2)
/-- What the package variables of the sum hold. -/
def beginsV : List V := ints .u32 [1779033703, 3144134277, 1013904242, 2773480762, 1359893119, 2600822924, 528734635, 1541459225]
def cubesV : List V := ints .u32 [1116352408, 1899447441, 3049323471, 3921009573, 961987163, 1508970993, 2453635748, 2870763221, 3624381080, 310598401, 607225278, 1426881987, 1925078388, 2162078206, 2614888103, 3248222580, 3835390401, 4022224774, 264347078, 604807628, 770255983, 1249150122, 1555081692, 1996064986, 2554220882, 2821834349, 2952996808, 3210313671, 3336571891, 3584528711, 113926993, 338241895, 666307205, 773529912, 1294757372, 1396182291, 1695183700, 1986661051, 2177026350, 2456956037, 2730485921, 2820302411, 3259730800, 3345764771, 3516065817, 3600352804, 4094571909, 275423344, 430227734, 506948616, 659060556, 883997877, 958139571, 1322822218, 1537002063, 1747873779, 1955562222, 2024104815, 2227730452, 2361852424, 2428436474, 2756734187, 3204031479, 3329325298]
def globT (g : Nat) : Option (List V) := if g = 0 then some beginsV else if g = 1 then some cubesV else none
def primT (f : Nat) : Option (List V → List O → Option V) := if f = 188 then some pIdxS else none
def barT (f : Nat) : Bool := f == 114 || f == 7 || f == 24 || f == 30 || f == 31 || f == 81
/-- A region that is never come to. -/
def hookT (g id : Nat) : Option (List Nat → St → Option St) := if g = 36 ∧ id = 7 then some (fun _ _ => none) else none
/-- The machine that walks. -/
noncomputable def cfg : Cfg := { P := Tryz.prog, bar := barT, cls := clsOf, pre := preOf, prim := primT, glob := globT, keep := fun f _ => [95].contains f, hook := hookT }
set_option maxRecDepth 100000
theorem fns : fnsOk cfg = true := by decide +kernel
theorem kpF {f : Nat} {p : List Nat} (h : [95].contains f = false) : cfg.keep f p = false := h
theorem kpT {f : Nat} {p : List Nat} (h : [95].contains f = true) : cfg.keep f p = true := h
theorem mixed : cfg.P.follows .mixedOrders = true := by kernel_rfl
theorem primAt (C : Cfg) (hP : C.P = Tryz.prog) : ∀ f g, primT f = some g → PrimAt C f g := by
  intro f g h'
  unfold primT at h'
  split at h'
  · rename_i e; subst e; cases h'; exact prim_idxS (by rw [hP]; exact Tryz.func188) (by kernel_rfl) (by kernel_rfl) (by kernel_rfl) (by kernel_rfl)
  · cases h'
theorem hooks : HookOk cfg := by
  intro g id h hh fn c0 ops _ _ _ B0 p s s' a M w _ hs
  have hh : hookT g id = some h := hh
  unfold hookT at hh
  split at hh
  · cases hh; cases hs
  · cases hh
theorem prims : PrimOk cfg := { v := primOk_of (primAt cfg rfl), m := (fun f g h => by cases h), hook := hooks }
end Go.Am.R2

/- Facts of types. -/
namespace Go.Am.R2
open Go.Proofs
set_option maxRecDepth 100000
set_option linter.unusedVariables false
set_option linter.unusedSimpArgs false
theorem sh3 : cfg.shape 3 = .int .i64 := by kernel_rfl
theorem sz3 : cfg.size 3 = some 1 := by kernel_rfl
theorem by3 : cfg.bytes 3 = 8 := by kernel_rfl
theorem ag3 : cfg.isAgg 3 = some false := by kernel_rfl
theorem kn3 : known cfg 3 = true := by kernel_rfl
theorem ze3 : cfg.zero 3 = some (.i .i64 0) := by kernel_rfl
theorem sh4 : cfg.shape 4 = .other := by kernel_rfl
theorem sz4 : cfg.size 4 = some 1 := by kernel_rfl
theorem by4 : cfg.bytes 4 = 1 := by kernel_rfl
theorem ag4 : cfg.isAgg 4 = some false := by kernel_rfl
theorem kn4 : known cfg 4 = true := by kernel_rfl
theorem ze4 : cfg.zero 4 = some (.b false) := by kernel_rfl
theorem sh5 : cfg.shape 5 = .int .u8 := by kernel_rfl
theorem sz5 : cfg.size 5 = some 1 := by kernel_rfl
theorem by5 : cfg.bytes 5 = 1 := by kernel_rfl
theorem ag5 : cfg.isAgg 5 = some false := by kernel_rfl
theorem kn5 : known cfg 5 = true := by kernel_rfl
theorem ze5 : cfg.zero 5 = some (.i .u8 0) := by kernel_rfl
theorem sh9 : cfg.shape 9 = .string := by kernel_rfl
theorem sz9 : cfg.size 9 = some 1 := by kernel_rfl
theorem by9 : cfg.bytes 9 = 16 := by kernel_rfl
theorem ag9 : cfg.isAgg 9 = some false := by kernel_rfl
theorem kn9 : known cfg 9 = true := by kernel_rfl
theorem ze9 : cfg.zero 9 = some (.s .empty) := by kernel_rfl
theorem sh22 : cfg.shape 22 = .array 32 5 := by kernel_rfl
theorem sz22 : cfg.size 22 = some 32 := by kernel_rfl
theorem by22 : cfg.bytes 22 = 32 := by kernel_rfl
theorem ag22 : cfg.isAgg 22 = some true := by kernel_rfl
theorem kn22 : known cfg 22 = true := by kernel_rfl
theorem ze22 : cfg.zero 22 = some (.agg [(.i .u8 0), (.i .u8 0), (.i .u8 0), (.i .u8 0), (.i .u8 0), (.i .u8 0), (.i .u8 0), (.i .u8 0), (.i .u8 0), (.i .u8 0), (.i .u8 0), (.i .u8 0), (.i .u8 0), (.i .u8 0), (.i .u8 0), (.i .u8 0), (.i .u8 0), (.i .u8 0), (.i .u8 0), (.i .u8 0), (.i .u8 0), (.i .u8 0), (.i .u8 0), (.i .u8 0), (.i .u8 0), (.i .u8 0), (.i .u8 0), (.i .u8 0), (.i .u8 0), (.i .u8 0), (.i .u8 0), (.i .u8 0)]) := by kernel_rfl
theorem fk22 : flat cfg 20 22 = some (List.replicate 32 (.i .u8) : List Fk) := by kernel_rfl
theorem sh24 : cfg.shape 24 = .other := by kernel_rfl
theorem sz24 : cfg.size 24 = some 34 := by kernel_rfl
theorem by24 : cfg.bytes 24 = 48 := by kernel_rfl
theorem ag24 : cfg.isAgg 24 = some true := by kernel_rfl
theorem kn24 : known cfg 24 = true := by kernel_rfl
theorem ze24 : cfg.zero 24 = some (.agg [(.i .i64 0), (.i .i64 0), (.i .u8 0), (.i .u8 0), (.i .u8 0), (.i .u8 0), (.i .u8 0), (.i .u8 0), (.i .u8 0), (.i .u8 0), (.i .u8 0), (.i .u8 0), (.i .u8 0), (.i .u8 0), (.i .u8 0), (.i .u8 0), (.i .u8 0), (.i .u8 0), (.i .u8 0), (.i .u8 0), (.i .u8 0), (.i .u8 0), (.i .u8 0), (.i .u8 0), (.i .u8 0), (.i .u8 0), (.i .u8 0), (.i .u8 0), (.i .u8 0), (.i .u8 0), (.i .u8 0), (.i .u8 0), (.i .u8 0), (.i .u8 0)]) := by kernel_rfl
theorem fk24 : flat cfg 20 24 = some ([(.i .i64), (.i .i64)] ++ List.replicate 32 (.i .u8) : List Fk) := by kernel_rfl
theorem pl24 : cfg.places 24 = some [(0, 1), (1, 1), (2, 32)] := by kernel_rfl
theorem sh26 : cfg.shape 26 = .other := by kernel_rfl
theorem sz26 : cfg.size 26 = some 36 := by kernel_rfl
theorem by26 : cfg.bytes 26 = 64 := by kernel_rfl
theorem ag26 : cfg.isAgg 26 = some true := by kernel_rfl
theorem kn26 : known cfg 26 = true := by kernel_rfl
theorem ze26 : cfg.zero 26 = some (.agg [(.i .i64 0), (.i .i64 0), (.i .u8 0), (.i .u8 0), (.i .u8 0), (.i .u8 0), (.i .u8 0), (.i .u8 0), (.i .u8 0), (.i .u8 0), (.i .u8 0), (.i .u8 0), (.i .u8 0), (.i .u8 0), (.i .u8 0), (.i .u8 0), (.i .u8 0), (.i .u8 0), (.i .u8 0), (.i .u8 0), (.i .u8 0), (.i .u8 0), (.i .u8 0), (.i .u8 0), (.i .u8 0), (.i .u8 0), (.i .u8 0), (.i .u8 0), (.i .u8 0), (.i .u8 0), (.i .u8 0), (.i .u8 0), (.i .u8 0), (.i .u8 0), (.i .i64 0), (.i .i64 0)]) := by kernel_rfl
theorem fk26 : flat cfg 20 26 = some ([(.i .i64), (.i .i64)] ++ List.replicate 32 (.i .u8) ++ [(.i .i64), (.i .i64)] : List Fk) := by kernel_rfl
theorem pl26 : cfg.places 26 = some [(0, 34), (34, 1), (35, 1)] := by kernel_rfl
theorem sh31 : cfg.shape 31 = .slice 148 := by kernel_rfl
theorem sz31 : cfg.size 31 = some 1 := by kernel_rfl
theorem by31 : cfg.bytes 31 = 24 := by kernel_rfl
theorem ag31 : cfg.isAgg 31 = some false := by kernel_rfl
theorem kn31 : known cfg 31 = true := by kernel_rfl
theorem el31 : cfg.elem 31 = some (148, 130, (.agg [(.i .u8 0), (.i .u8 0), (.i .u8 0), (.i .u8 0), (.i .u8 0), (.i .u8 0), (.i .u8 0), (.i .u8 0), (.i .u8 0), (.i .u8 0), (.i .u8 0), (.i .u8 0), (.i .u8 0), (.i .u8 0), (.i .u8 0), (.i .u8 0), (.i .u8 0), (.i .u8 0), (.i .u8 0), (.i .u8 0), (.i .u8 0), (.i .u8 0), (.i .u8 0), (.i .u8 0), (.i .u8 0), (.i .u8 0), (.i .u8 0), (.i .u8 0), (.i .u8 0), (.i .u8 0), (.i .u8 0), (.i .u8 0), (.i .u8 0), (.i .u8 0), (.i .u8 0), (.i .u8 0), (.i .u8 0), (.i .u8 0), (.i .u8 0), (.i .u8 0), (.i .u8 0), (.i .u8 0), (.i .u8 0), (.i .u8 0), (.i .u8 0), (.i .u8 0), (.i .u8 0), (.i .u8 0), (.i .u8 0), (.i .u8 0), (.i .u8 0), (.i .u8 0), (.i .u8 0), (.i .u8 0), (.i .u8 0), (.i .u8 0), (.i .u8 0), (.i .u8 0), (.i .u8 0), (.i .u8 0), (.i .u8 0), (.i .u8 0), (.i .u8 0), (.i .u8 0), (.i .u8 0), (.i .u8 0), (.i .u8 0), (.i .u8 0), (.i .u8 0), (.i .u8 0), (.i .u8 0), (.i .u8 0), (.i .u8 0), (.i .u8 0), (.i .u8 0), (.i .u8 0), (.i .u8 0), (.i .u8 0), (.i .u8 0), (.i .u8 0), (.i .u8 0), (.i .u8 0), (.i .u8 0), (.i .u8 0), (.i .u8 0), (.i .u8 0), (.i .u8 0), (.i .u8 0), (.i .u8 0), (.i .u8 0), (.i .u8 0), (.i .u8 0), (.i .u8 0), (.i .u8 0), (.i .u8 0), (.i .u8 0), (.i .u8 0), (.i .u8 0), (.i .u8 0), (.i .u8 0), (.i .u8 0), (.i .u8 0), (.i .u8 0), (.i .u8 0), (.i .u8 0), (.i .u8 0), (.i .u8 0), (.i .u8 0), (.i .u8 0), (.i .u8 0), (.i .u8 0), (.i .u8 0), (.i .u8 0), (.i .u8 0), (.i .u8 0), (.i .u8 0), (.i .u8 0), (.i .u8 0), (.i .u8 0), (.i .u8 0), (.i .u8 0), (.i .u8 0), (.i .u8 0), (.i .u8 0), (.i .u8 0), (.i .u8 0), (.i .u8 0), (.i .u8 0), (.b false), (.b false)])) := by kernel_rfl
theorem ze31 : cfg.zero 31 = some .nils := by kernel_rfl
theorem sh32 : cfg.shape 32 = .slice 132 := by kernel_rfl
theorem sz32 : cfg.size 32 = some 1 := by kernel_rfl
theorem by32 : cfg.bytes 32 = 24 := by kernel_rfl
theorem ag32 : cfg.isAgg 32 = some false := by kernel_rfl
theorem kn32 : known cfg 32 = true := by kernel_rfl
theorem el32 : cfg.elem 32 = some (132, 129, (.agg [(.i .i64 0), (.i .u8 0), (.i .u8 0), (.i .u8 0), (.i .u8 0), (.i .u8 0), (.i .u8 0), (.i .u8 0), (.i .u8 0), (.i .u8 0), (.i .u8 0), (.i .u8 0), (.i .u8 0), (.i .u8 0), (.i .u8 0), (.i .u8 0), (.i .u8 0), (.i .u8 0), (.i .u8 0), (.i .u8 0), (.i .u8 0), (.i .u8 0), (.i .u8 0), (.i .u8 0), (.i .u8 0), (.i .u8 0), (.i .u8 0), (.i .u8 0), (.i .u8 0), (.i .u8 0), (.i .u8 0), (.i .u8 0), (.i .u8 0), (.i .u8 0), (.i .u8 0), (.i .u8 0), (.i .u8 0), (.i .u8 0), (.i .u8 0), (.i .u8 0), (.i .u8 0), (.i .u8 0), (.i .u8 0), (.i .u8 0), (.i .u8 0), (.i .u8 0), (.i .u8 0), (.i .u8 0), (.i .u8 0), (.i .u8 0), (.i .u8 0), (.i .u8 0), (.i .u8 0), (.i .u8 0), (.i .u8 0), (.i .u8 0), (.i .u8 0), (.i .u8 0), (.i .u8 0), (.i .u8 0), (.i .u8 0), (.i .u8 0), (.i .u8 0), (.i .u8 0), (.i .u8 0), (.i .u8 0), (.i .u8 0), (.i .u8 0), (.i .u8 0), (.i .u8 0), (.i .u8 0), (.i .u8 0), (.i .u8 0), (.i .u8 0), (.i .u8 0), (.i .u8 0), (.i .u8 0), (.i .u8 0), (.i .u8 0), (.i .u8 0), (.i .u8 0), (.i .u8 0), (.i .u8 0), (.i .u8 0), (.i .u8 0), (.i .u8 0), (.i .u8 0), (.i .u8 0), (.i .u8 0), (.i .u8 0), (.i .u8 0), (.i .u8 0), (.i .u8 0), (.i .u8 0), (.i .u8 0), (.i .u8 0), (.i .u8 0), (.i .u8 0), (.i .u8 0), (.i .u8 0), (.i .u8 0), (.i .u8 0), (.i .u8 0), (.i .u8 0), (.i .u8 0), (.i .u8 0), (.i .u8 0), (.i .u8 0), (.i .u8 0), (.i .u8 0), (.i .u8 0), (.i .u8 0), (.i .u8 0), (.i .u8 0), (.i .u8 0), (.i .u8 0), (.i .u8 0), (.i .u8 0), (.i .u8 0), (.i .u8 0), (.i .u8 0), (.i .u8 0), (.i .u8 0), (.i .u8 0), (.i .u8 0), (.i .u8 0), (.i .u8 0), (.i .u8 0), (.i .u8 0)])) := by kernel_rfl
theorem ze32 : cfg.zero 32 = some .nils := by kernel_rfl
theorem sh34 : cfg.shape 34 = .other := by kernel_rfl
theorem sz34 : cfg.size 34 = some 4 := by kernel_rfl
theorem by34 : cfg.bytes 34 = 64 := by kernel_rfl
theorem ag34 : cfg.isAgg 34 = some true := by kernel_rfl
theorem kn34 : known cfg 34 = true := by kernel_rfl
theorem ze34 : cfg.zero 34 = some (.agg [.nils, .nils, (.i .i64 0), (.b false)]) := by kernel_rfl
theorem pl34 : cfg.places 34 = some [(0, 1), (1, 1), (2, 1), (3, 1)] := by kernel_rfl
theorem sh35 : cfg.shape 35 = .slice 134 := by kernel_rfl
theorem sz35 : cfg.size 35 = some 1 := by kernel_rfl
theorem by35 : cfg.bytes 35 = 24 := by kernel_rfl
theorem ag35 : cfg.isAgg 35 = some false := by kernel_rfl
theorem kn35 : known cfg 35 = true := by kernel_rfl
theorem el35 : cfg.elem 35 = some (134, 2, (.agg [(.i .i64 0), (.i .i64 0)])) := by kernel_rfl
theorem ze35 : cfg.zero 35 = some .nils := by kernel_rfl
theorem sh37 : cfg.shape 37 = .other := by kernel_rfl
theorem sz37 : cfg.size 37 = some 2 := by kernel_rfl
theorem by37 : cfg.bytes 37 = 32 := by kernel_rfl
theorem ag37 : cfg.isAgg 37 = some true := by kernel_rfl
theorem kn37 : known cfg 37 = true := by kernel_rfl
theorem ze37 : cfg.zero 37 = some (.agg [(.i .i64 0), .nils]) := by kernel_rfl
theorem pl37 : cfg.places 37 = some [(0, 1), (1, 1)] := by kernel_rfl
theorem sh38 : cfg.shape 38 = .array 2 3 := by kernel_rfl
theorem sz38 : cfg.size 38 = some 2 := by kernel_rfl
theorem by38 : cfg.bytes 38 = 16 := by kernel_rfl
theorem ag38 : cfg.isAgg 38 = some true := by kernel_rfl
theorem kn38 : known cfg 38 = true := by kernel_rfl
theorem ze38 : cfg.zero 38 = some (.agg [(.i .i64 0), (.i .i64 0)]) := by kernel_rfl
theorem fk38 : flat cfg 20 38 = some ([(.i .i64), (.i .i64)] : List Fk) := by kernel_rfl
theorem sh39 : cfg.shape 39 = .slice 5 := by kernel_rfl
theorem sz39 : cfg.size 39 = some 1 := by kernel_rfl
theorem by39 : cfg.bytes 39 = 24 := by kernel_rfl
theorem ag39 : cfg.isAgg 39 = some false := by kernel_rfl
theorem kn39 : known cfg 39 = true := by kernel_rfl
theorem el39 : cfg.elem 39 = some (5, 1, (.i .u8 0)) := by kernel_rfl
theorem ze39 : cfg.zero 39 = some .nils := by kernel_rfl
theorem sh41 : cfg.shape 41 = .other := by kernel_rfl
theorem sz41 : cfg.size 41 = some 4 := by kernel_rfl
theorem by41 : cfg.bytes 41 = 48 := by kernel_rfl
theorem ag41 : cfg.isAgg 41 = some true := by kernel_rfl
theorem kn41 : known cfg 41 = true := by kernel_rfl
theorem ze41 : cfg.zero 41 = some (.agg [(.i .i64 0), (.i .i64 0), (.i .i64 0), .nils]) := by kernel_rfl
theorem pl41 : cfg.places 41 = some [(0, 2), (2, 1), (3, 1)] := by kernel_rfl
theorem sh43 : cfg.shape 43 = .other := by kernel_rfl
theorem sz43 : cfg.size 43 = some 10 := by kernel_rfl
theorem by43 : cfg.bytes 43 = 144 := by kernel_rfl
theorem ag43 : cfg.isAgg 43 = some true := by kernel_rfl
theorem kn43 : known cfg 43 = true := by kernel_rfl
theorem ze43 : cfg.zero 43 = some (.agg [.nils, .nils, (.i .i64 0), (.b false), (.i .i64 0), .nils, (.i .i64 0), (.i .i64 0), (.i .i64 0), .nils]) := by kernel_rfl
theorem pl43 : cfg.places 43 = some [(0, 4), (4, 2), (6, 4)] := by kernel_rfl
theorem sh47 : cfg.shape 47 = .array 128 5 := by kernel_rfl
theorem sz47 : cfg.size 47 = some 128 := by kernel_rfl
theorem by47 : cfg.bytes 47 = 128 := by kernel_rfl
theorem ag47 : cfg.isAgg 47 = some true := by kernel_rfl
theorem kn47 : known cfg 47 = true := by kernel_rfl
theorem ze47 : cfg.zero 47 = some (.agg [(.i .u8 0), (.i .u8 0), (.i .u8 0), (.i .u8 0), (.i .u8 0), (.i .u8 0), (.i .u8 0), (.i .u8 0), (.i .u8 0), (.i .u8 0), (.i .u8 0), (.i .u8 0), (.i .u8 0), (.i .u8 0), (.i .u8 0), (.i .u8 0), (.i .u8 0), (.i .u8 0), (.i .u8 0), (.i .u8 0), (.i .u8 0), (.i .u8 0), (.i .u8 0), (.i .u8 0), (.i .u8 0), (.i .u8 0), (.i .u8 0), (.i .u8 0), (.i .u8 0), (.i .u8 0), (.i .u8 0), (.i .u8 0), (.i .u8 0), (.i .u8 0), (.i .u8 0), (.i .u8 0), (.i .u8 0), (.i .u8 0), (.i .u8 0), (.i .u8 0), (.i .u8 0), (.i .u8 0), (.i .u8 0), (.i .u8 0), (.i .u8 0), (.i .u8 0), (.i .u8 0), (.i .u8 0), (.i .u8 0), (.i .u8 0), (.i .u8 0), (.i .u8 0), (.i .u8 0), (.i .u8 0), (.i .u8 0), (.i .u8 0), (.i .u8 0), (.i .u8 0), (.i .u8 0), (.i .u8 0), (.i .u8 0), (.i .u8 0), (.i .u8 0), (.i .u8 0), (.i .u8 0), (.i .u8 0), (.i .u8 0), (.i .u8 0), (.i .u8 0), (.i .u8 0), (.i .u8 0), (.i .u8 0), (.i .u8 0), (.i .u8 0), (.i .u8 0), (.i .u8 0), (.i .u8 0), (.i .u8 0), (.i .u8 0), (.i .u8 0), (.i .u8 0), (.i .u8 0), (.i .u8 0), (.i .u8 0), (.i .u8 0), (.i .u8 0), (.i .u8 0), (.i .u8 0), (.i .u8 0), (.i .u8 0), (.i .u8 0), (.i .u8 0), (.i .u8 0), (.i .u8 0), (.i .u8 0), (.i .u8 0), (.i .u8 0), (.i .u8 0), (.i .u8 0), (.i .u8 0), (.i .u8 0), (.i .u8 0), (.i .u8 0), (.i .u8 0), (.i .u8 0), (.i .u8 0), (.i .u8 0), (.i .u8 0), (.i .u8 0), (.i .u8 0), (.i .u8 0), (.i .u8 0), (.i .u8 0), (.i .u8 0), (.i .u8 0), (.i .u8 0), (.i .u8 0), (.i .u8 0), (.i .u8 0), (.i .u8 0), (.i .u8 0), (.i .u8 0), (.i .u8 0), (.i .u8 0), (.i .u8 0), (.i .u8 0), (.i .u8 0), (.i .u8 0)]) := by kernel_rfl
theorem fk47 : flat cfg 20 47 = some (List.replicate 128 (.i .u8) : List Fk) := by kernel_rfl
theorem sh48 : cfg.shape 48 = .int .i64 := by kernel_rfl
theorem sz48 : cfg.size 48 = some 1 := by kernel_rfl
theorem by48 : cfg.bytes 48 = 8 := by kernel_rfl
theorem ag48 : cfg.isAgg 48 = some false := by kernel_rfl
theorem kn48 : known cfg 48 = true := by kernel_rfl
theorem ze48 : cfg.zero 48 = some (.i .i64 0) := by kernel_rfl
theorem sh85 : cfg.shape 85 = .other := by kernel_rfl
theorem sz85 : cfg.size 85 = some 6 := by kernel_rfl
theorem by85 : cfg.bytes 85 = 48 := by kernel_rfl
theorem ag85 : cfg.isAgg 85 = some true := by kernel_rfl
theorem kn85 : known cfg 85 = true := by kernel_rfl
theorem ze85 : cfg.zero 85 = some (.agg [(.i .i64 0), (.i .i64 0), (.i .i64 0), (.i .i64 0), (.i .i64 0), (.i .i64 0)]) := by kernel_rfl
theorem fk85 : flat cfg 20 85 = some (List.replicate 6 (.i .i64) : List Fk) := by kernel_rfl
theorem pl85 : cfg.places 85 = some [(0, 1), (1, 1), (2, 1), (3, 1), (4, 1), (5, 1)] := by kernel_rfl
theorem sh120 : cfg.shape 120 = .array 64 5 := by kernel_rfl
theorem sz120 : cfg.size 120 = some 64 := by kernel_rfl
theorem by120 : cfg.bytes 120 = 64 := by kernel_rfl
theorem ag120 : cfg.isAgg 120 = some true := by kernel_rfl
theorem kn120 : known cfg 120 = true := by kernel_rfl
theorem ze120 : cfg.zero 120 = some (.agg [(.i .u8 0), (.i .u8 0), (.i .u8 0), (.i .u8 0), (.i .u8 0), (.i .u8 0), (.i .u8 0), (.i .u8 0), (.i .u8 0), (.i .u8 0), (.i .u8 0), (.i .u8 0), (.i .u8 0), (.i .u8 0), (.i .u8 0), (.i .u8 0), (.i .u8 0), (.i .u8 0), (.i .u8 0), (.i .u8 0), (.i .u8 0), (.i .u8 0), (.i .u8 0), (.i .u8 0), (.i .u8 0), (.i .u8 0), (.i .u8 0), (.i .u8 0), (.i .u8 0), (.i .u8 0), (.i .u8 0), (.i .u8 0), (.i .u8 0), (.i .u8 0), (.i .u8 0), (.i .u8 0), (.i .u8 0), (.i .u8 0), (.i .u8 0), (.i .u8 0), (.i .u8 0), (.i .u8 0), (.i .u8 0), (.i .u8 0), (.i .u8 0), (.i .u8 0), (.i .u8 0), (.i .u8 0), (.i .u8 0), (.i .u8 0), (.i .u8 0), (.i .u8 0), (.i .u8 0), (.i .u8 0), (.i .u8 0), (.i .u8 0), (.i .u8 0), (.i .u8 0), (.i .u8 0), (.i .u8 0), (.i .u8 0), (.i .u8 0), (.i .u8 0), (.i .u8 0)]) := by kernel_rfl
theorem fk120 : flat cfg 20 120 = some (List.replicate 64 (.i .u8) : List Fk) := by kernel_rfl
theorem sh132 : cfg.shape 132 = .other := by kernel_rfl
theorem sz132 : cfg.size 132 = some 129 := by kernel_rfl
theorem by132 : cfg.bytes 132 = 136 := by kernel_rfl
theorem ag132 : cfg.isAgg 132 = some true := by kernel_rfl
theorem kn132 : known cfg 132 = true := by kernel_rfl
theorem ze132 : cfg.zero 132 = some (.agg [(.i .i64 0), (.i .u8 0), (.i .u8 0), (.i .u8 0), (.i .u8 0), (.i .u8 0), (.i .u8 0), (.i .u8 0), (.i .u8 0), (.i .u8 0), (.i .u8 0), (.i .u8 0), (.i .u8 0), (.i .u8 0), (.i .u8 0), (.i .u8 0), (.i .u8 0), (.i .u8 0), (.i .u8 0), (.i .u8 0), (.i .u8 0), (.i .u8 0), (.i .u8 0), (.i .u8 0), (.i .u8 0), (.i .u8 0), (.i .u8 0), (.i .u8 0), (.i .u8 0), (.i .u8 0), (.i .u8 0), (.i .u8 0), (.i .u8 0), (.i .u8 0), (.i .u8 0), (.i .u8 0), (.i .u8 0), (.i .u8 0), (.i .u8 0), (.i .u8 0), (.i .u8 0), (.i .u8 0), (.i .u8 0), (.i .u8 0), (.i .u8 0), (.i .u8 0), (.i .u8 0), (.i .u8 0), (.i .u8 0), (.i .u8 0), (.i .u8 0), (.i .u8 0), (.i .u8 0), (.i .u8 0), (.i .u8 0), (.i .u8 0), (.i .u8 0), (.i .u8 0), (.i .u8 0), (.i .u8 0), (.i .u8 0), (.i .u8 0), (.i .u8 0), (.i .u8 0), (.i .u8 0), (.i .u8 0), (.i .u8 0), (.i .u8 0), (.i .u8 0), (.i .u8 0), (.i .u8 0), (.i .u8 0), (.i .u8 0), (.i .u8 0), (.i .u8 0), (.i .u8 0), (.i .u8 0), (.i .u8 0), (.i .u8 0), (.i .u8 0), (.i .u8 0), (.i .u8 0), (.i .u8 0), (.i .u8 0), (.i .u8 0), (.i .u8 0), (.i .u8 0), (.i .u8 0), (.i .u8 0), (.i .u8 0), (.i .u8 0), (.i .u8 0), (.i .u8 0), (.i .u8 0), (.i .u8 0), (.i .u8 0), (.i .u8 0), (.i .u8 0), (.i .u8 0), (.i .u8 0), (.i .u8 0), (.i .u8 0), (.i .u8 0), (.i .u8 0), (.i .u8 0), (.i .u8 0), (.i .u8 0), (.i .u8 0), (.i .u8 0), (.i .u8 0), (.i .u8 0), (.i .u8 0), (.i .u8 0), (.i .u8 0), (.i .u8 0), (.i .u8 0), (.i .u8 0), (.i .u8 0), (.i .u8 0), (.i .u8 0), (.i .u8 0), (.i .u8 0), (.i .u8 0), (.i .u8 0), (.i .u8 0), (.i .u8 0), (.i .u8 0), (.i .u8 0), (.i .u8 0)]) := by kernel_rfl
theorem fk132 : flat cfg 20 132 = some ([(.i .i64)] ++ List.replicate 128 (.i .u8) : List Fk) := by kernel_rfl
theorem pl132 : cfg.places 132 = some [(0, 1), (1, 128)] := by kernel_rfl
theorem sh134 : cfg.shape 134 = .other := by kernel_rfl
theorem sz134 : cfg.size 134 = some 2 := by kernel_rfl
theorem by134 : cfg.bytes 134 = 16 := by kernel_rfl
theorem ag134 : cfg.isAgg 134 = some true := by kernel_rfl
theorem kn134 : known cfg 134 = true := by kernel_rfl
theorem ze134 : cfg.zero 134 = some (.agg [(.i .i64 0), (.i .i64 0)]) := by kernel_rfl
theorem fk134 : flat cfg 20 134 = some ([(.i .i64), (.i .i64)] : List Fk) := by kernel_rfl
theorem pl134 : cfg.places 134 = some [(0, 1), (1, 1)] := by kernel_rfl
theorem sh148 : cfg.shape 148 = .other := by kernel_rfl
theorem sz148 : cfg.size 148 = some 130 := by kernel_rfl
theorem by148 : cfg.bytes 148 = 130 := by kernel_rfl
theorem ag148 : cfg.isAgg 148 = some true := by kernel_rfl
theorem kn148 : known cfg 148 = true := by kernel_rfl
theorem ze148 : cfg.zero 148 = some (.agg [(.i .u8 0), (.i .u8 0), (.i .u8 0), (.i .u8 0), (.i .u8 0), (.i .u8 0), (.i .u8 0), (.i .u8 0), (.i .u8 0), (.i .u8 0), (.i .u8 0), (.i .u8 0), (.i .u8 0), (.i .u8 0), (.i .u8 0), (.i .u8 0), (.i .u8 0), (.i .u8 0), (.i .u8 0), (.i .u8 0), (.i .u8 0), (.i .u8 0), (.i .u8 0), (.i .u8 0), (.i .u8 0), (.i .u8 0), (.i .u8 0), (.i .u8 0), (.i .u8 0), (.i .u8 0), (.i .u8 0), (.i .u8 0), (.i .u8 0), (.i .u8 0), (.i .u8 0), (.i .u8 0), (.i .u8 0), (.i .u8 0), (.i .u8 0), (.i .u8 0), (.i .u8 0), (.i .u8 0), (.i .u8 0), (.i .u8 0), (.i .u8 0), (.i .u8 0), (.i .u8 0), (.i .u8 0), (.i .u8 0), (.i .u8 0), (.i .u8 0), (.i .u8 0), (.i .u8 0), (.i .u8 0), (.i .u8 0), (.i .u8 0), (.i .u8 0), (.i .u8 0), (.i .u8 0), (.i .u8 0), (.i .u8 0), (.i .u8 0), (.i .u8 0), (.i .u8 0), (.i .u8 0), (.i .u8 0), (.i .u8 0), (.i .u8 0), (.i .u8 0), (.i .u8 0), (.i .u8 0), (.i .u8 0), (.i .u8 0), (.i .u8 0), (.i .u8 0), (.i .u8 0), (.i .u8 0), (.i .u8 0), (.i .u8 0), (.i .u8 0), (.i .u8 0), (.i .u8 0), (.i .u8 0), (.i .u8 0), (.i .u8 0), (.i .u8 0), (.i .u8 0), (.i .u8 0), (.i .u8 0), (.i .u8 0), (.i .u8 0), (.i .u8 0), (.i .u8 0), (.i .u8 0), (.i .u8 0), (.i .u8 0), (.i .u8 0), (.i .u8 0), (.i .u8 0), (.i .u8 0), (.i .u8 0), (.i .u8 0), (.i .u8 0), (.i .u8 0), (.i .u8 0), (.i .u8 0), (.i .u8 0), (.i .u8 0), (.i .u8 0), (.i .u8 0), (.i .u8 0), (.i .u8 0), (.i .u8 0), (.i .u8 0), (.i .u8 0), (.i .u8 0), (.i .u8 0), (.i .u8 0), (.i .u8 0), (.i .u8 0), (.i .u8 0), (.i .u8 0), (.i .u8 0), (.i .u8 0), (.i .u8 0), (.i .u8 0), (.i .u8 0), (.i .u8 0), (.b false), (.b false)]) := by kernel_rfl
theorem fk148 : flat cfg 20 148 = some (List.replicate 128 (.i .u8) ++ [.b, .b] : List Fk) := by kernel_rfl
theorem pl148 : cfg.places 148 = some [(0, 128), (128, 1), (129, 1)] := by kernel_rfl
theorem sh183 : cfg.shape 183 = .int .u64 := by kernel_rfl
theorem sz183 : cfg.size 183 = some 1 := by kernel_rfl
theorem by183 : cfg.bytes 183 = 8 := by kernel_rfl
theorem ag183 : cfg.isAgg 183 = some false := by kernel_rfl
theorem kn183 : known cfg 183 = true := by kernel_rfl
theorem ze183 : cfg.zero 183 = some (.i .u64 0) := by kernel_rfl
theorem sh209 : cfg.shape 209 = .map 3 4 := by kernel_rfl
theorem sz209 : cfg.size 209 = some 1 := by kernel_rfl
theorem by209 : cfg.bytes 209 = 8 := by kernel_rfl
theorem ag209 : cfg.isAgg 209 = some false := by kernel_rfl
theorem kn209 : known cfg 209 = true := by kernel_rfl
theorem ze209 : cfg.zero 209 = some .nilm := by kernel_rfl
theorem sh210 : cfg.shape 210 = .array 2 209 := by kernel_rfl
theorem sz210 : cfg.size 210 = some 2 := by kernel_rfl
theorem by210 : cfg.bytes 210 = 16 := by kernel_rfl
theorem ag210 : cfg.isAgg 210 = some true := by kernel_rfl
theorem kn210 : known cfg 210 = true := by kernel_rfl
theorem ze210 : cfg.zero 210 = some (.agg [.nilm, .nilm]) := by kernel_rfl
theorem sh211 : cfg.shape 211 = .int .u32 := by kernel_rfl
theorem sz211 : cfg.size 211 = some 1 := by kernel_rfl
theorem by211 : cfg.bytes 211 = 4 := by kernel_rfl
theorem ag211 : cfg.isAgg 211 = some false := by kernel_rfl
theorem kn211 : known cfg 211 = true := by kernel_rfl
theorem ze211 : cfg.zero 211 = some (.i .u32 0) := by kernel_rfl
theorem ld3 {σ : List O} {r o : Nat} {st : List Nat} : loadA cfg 3 σ (.ptr r st o) = (rowAt σ r st).bind fun cs => cs[o]? := load_sc ag3
theorem li3 {σ : List O} {cs : List V} : loadA cfg 3 σ (.iptr cs) = cs[0]? := load_ip ag3
theorem sto3 {σ : List O} {r o : Nat} {st : List Nat} {v : V} (hv : v.one = true) : storeA cfg 3 σ (.ptr r st o) v = (rowAt σ r st).bind fun cs => if o < cs.length then some (σ.set r (.cells st (cs.set o v))) else none := store_sc sz3 hv
theorem ld4 {σ : List O} {r o : Nat} {st : List Nat} : loadA cfg 4 σ (.ptr r st o) = (rowAt σ r st).bind fun cs => cs[o]? := load_sc ag4
theorem li4 {σ : List O} {cs : List V} : loadA cfg 4 σ (.iptr cs) = cs[0]? := load_ip ag4
theorem sto4 {σ : List O} {r o : Nat} {st : List Nat} {v : V} (hv : v.one = true) : storeA cfg 4 σ (.ptr r st o) v = (rowAt σ r st).bind fun cs => if o < cs.length then some (σ.set r (.cells st (cs.set o v))) else none := store_sc sz4 hv
theorem ld5 {σ : List O} {r o : Nat} {st : List Nat} : loadA cfg 5 σ (.ptr r st o) = (rowAt σ r st).bind fun cs => cs[o]? := load_sc ag5
theorem li5 {σ : List O} {cs : List V} : loadA cfg 5 σ (.iptr cs) = cs[0]? := load_ip ag5
theorem sto5 {σ : List O} {r o : Nat} {st : List Nat} {v : V} (hv : v.one = true) : storeA cfg 5 σ (.ptr r st o) v = (rowAt σ r st).bind fun cs => if o < cs.length then some (σ.set r (.cells st (cs.set o v))) else none := store_sc sz5 hv
theorem ld9 {σ : List O} {r o : Nat} {st : List Nat} : loadA cfg 9 σ (.ptr r st o) = (rowAt σ r st).bind fun cs => cs[o]? := load_sc ag9
theorem li9 {σ : List O} {cs : List V} : loadA cfg 9 σ (.iptr cs) = cs[0]? := load_ip ag9
theorem sto9 {σ : List O} {r o : Nat} {st : List Nat} {v : V} (hv : v.one = true) : storeA cfg 9 σ (.ptr r st o) v = (rowAt σ r st).bind fun cs => if o < cs.length then some (σ.set r (.cells st (cs.set o v))) else none := store_sc sz9 hv
theorem les9 {σ : List O} {b : ByteArray} : lenA cfg 9 σ (.s b) = some (.i .i64 b.size) := len_str sh9
theorem ixs9 {i : Int} {b : ByteArray} {k : IntKind} (h0 : 0 ≤ i) (h1 : i < b.size) : indexA cfg 9 (.s b) (.i k i) = (b[i.toNat]?).map fun x => .i .u8 x.toNat := ixs sh9 h0 h1
theorem ipi22 {r o : Nat} {i : Int} {st : List Nat} {k : IntKind} (h0 : 0 ≤ i) (h1 : i < 32) : indexAddrA cfg 22 (.ptr r st o) (.i k i) = some (.ptr r st (o + i.toNat * 1)) := ipi (m := 32) sh22 sz5 h0 h1
theorem ixv22 {i : Int} {cs : List V} {k : IntKind} (h0 : 0 ≤ i) (h1 : i < 32) : indexA cfg 22 (.agg cs) (.i k i) = cs[i.toNat]? := ixv (m := 32) sh22 sz5 ag5 h0 h1
theorem eq22 {x y : Operand} {us vs : List V} (hu : us.map V.fk = (List.replicate 32 (.i .u8) : List Fk).map some) (hv : vs.map V.fk = (List.replicate 32 (.i .u8) : List Fk).map some) : binA cfg .eql 22 x y (.agg us) (.agg vs) = some (.b (eqB us vs)) := (binA_flat fk22 ag22 (by kernel_rfl) hu hv).1
theorem ne22 {x y : Operand} {us vs : List V} (hu : us.map V.fk = (List.replicate 32 (.i .u8) : List Fk).map some) (hv : vs.map V.fk = (List.replicate 32 (.i .u8) : List Fk).map some) : binA cfg .neq 22 x y (.agg us) (.agg vs) = some (.b (!eqB us vs)) := (binA_flat fk22 ag22 (by kernel_rfl) hu hv).2
theorem lda22 {σ : List O} {r o : Nat} {st : List Nat} : loadA cfg 22 σ (.ptr r st o) = (rowAt σ r st).bind fun cs => (take? cs o 32).map V.agg := load_agg ag22 sz22 (by decide)
theorem sta22 {σ : List O} {r o : Nat} {st : List Nat} {us : List V} (hl : us.length = 32) (ho : us.all V.one = true) : storeA cfg 22 σ (.ptr r st o) (.agg us) = (rowAt σ r st).bind fun cs => if o + 32 ≤ cs.length then some (σ.set r (.cells st (splice cs o us))) else none := store_agg sz22 hl ho
theorem bd22 {parts : List (Nat × V)} : buildA cfg 22 parts = (partsAt (fun i => some (i * 1, 1)) parts).bind fun l => (fillA [(.i .u8 0), (.i .u8 0), (.i .u8 0), (.i .u8 0), (.i .u8 0), (.i .u8 0), (.i .u8 0), (.i .u8 0), (.i .u8 0), (.i .u8 0), (.i .u8 0), (.i .u8 0), (.i .u8 0), (.i .u8 0), (.i .u8 0), (.i .u8 0), (.i .u8 0), (.i .u8 0), (.i .u8 0), (.i .u8 0), (.i .u8 0), (.i .u8 0), (.i .u8 0), (.i .u8 0), (.i .u8 0), (.i .u8 0), (.i .u8 0), (.i .u8 0), (.i .u8 0), (.i .u8 0), (.i .u8 0), (.i .u8 0)] l).map V.agg := build_array sh22 sz5 ze22
theorem eq24 {x y : Operand} {us vs : List V} (hu : us.map V.fk = ([(.i .i64), (.i .i64)] ++ List.replicate 32 (.i .u8) : List Fk).map some) (hv : vs.map V.fk = ([(.i .i64), (.i .i64)] ++ List.replicate 32 (.i .u8) : List Fk).map some) : binA cfg .eql 24 x y (.agg us) (.agg vs) = some (.b (eqB us vs)) := (binA_flat fk24 ag24 (by kernel_rfl) hu hv).1
theorem ne24 {x y : Operand} {us vs : List V} (hu : us.map V.fk = ([(.i .i64), (.i .i64)] ++ List.replicate 32 (.i .u8) : List Fk).map some) (hv : vs.map V.fk = ([(.i .i64), (.i .i64)] ++ List.replicate 32 (.i .u8) : List Fk).map some) : binA cfg .neq 24 x y (.agg us) (.agg vs) = some (.b (!eqB us vs)) := (binA_flat fk24 ag24 (by kernel_rfl) hu hv).2
theorem lda24 {σ : List O} {r o : Nat} {st : List Nat} : loadA cfg 24 σ (.ptr r st o) = (rowAt σ r st).bind fun cs => (take? cs o 34).map V.agg := load_agg ag24 sz24 (by decide)
theorem sta24 {σ : List O} {r o : Nat} {st : List Nat} {us : List V} (hl : us.length = 34) (ho : us.all V.one = true) : storeA cfg 24 σ (.ptr r st o) (.agg us) = (rowAt σ r st).bind fun cs => if o + 34 ≤ cs.length then some (σ.set r (.cells st (splice cs o us))) else none := store_agg sz24 hl ho
theorem bd24 {parts : List (Nat × V)} : buildA cfg 24 parts = (partsAt (fun i => ([(0, 1), (1, 1), (2, 32)] : List (Nat × Nat))[i]?) parts).bind fun l => (fillA [(.i .i64 0), (.i .i64 0), (.i .u8 0), (.i .u8 0), (.i .u8 0), (.i .u8 0), (.i .u8 0), (.i .u8 0), (.i .u8 0), (.i .u8 0), (.i .u8 0), (.i .u8 0), (.i .u8 0), (.i .u8 0), (.i .u8 0), (.i .u8 0), (.i .u8 0), (.i .u8 0), (.i .u8 0), (.i .u8 0), (.i .u8 0), (.i .u8 0), (.i .u8 0), (.i .u8 0), (.i .u8 0), (.i .u8 0), (.i .u8 0), (.i .u8 0), (.i .u8 0), (.i .u8 0), (.i .u8 0), (.i .u8 0), (.i .u8 0), (.i .u8 0)] l).map V.agg := build_struct sh24 pl24 ze24
theorem fi24x0 : cfg.field 24 0 = some (0, 3) := by kernel_rfl
theorem fi24x1 : cfg.field 24 1 = some (1, 3) := by kernel_rfl
theorem fi24x2 : cfg.field 24 2 = some (2, 22) := by kernel_rfl
theorem eq26 {x y : Operand} {us vs : List V} (hu : us.map V.fk = ([(.i .i64), (.i .i64)] ++ List.replicate 32 (.i .u8) ++ [(.i .i64), (.i .i64)] : List Fk).map some) (hv : vs.map V.fk = ([(.i .i64), (.i .i64)] ++ List.replicate 32 (.i .u8) ++ [(.i .i64), (.i .i64)] : List Fk).map some) : binA cfg .eql 26 x y (.agg us) (.agg vs) = some (.b (eqB us vs)) := (binA_flat fk26 ag26 (by kernel_rfl) hu hv).1
theorem ne26 {x y : Operand} {us vs : List V} (hu : us.map V.fk = ([(.i .i64), (.i .i64)] ++ List.replicate 32 (.i .u8) ++ [(.i .i64), (.i .i64)] : List Fk).map some) (hv : vs.map V.fk = ([(.i .i64), (.i .i64)] ++ List.replicate 32 (.i .u8) ++ [(.i .i64), (.i .i64)] : List Fk).map some) : binA cfg .neq 26 x y (.agg us) (.agg vs) = some (.b (!eqB us vs)) := (binA_flat fk26 ag26 (by kernel_rfl) hu hv).2
theorem lda26 {σ : List O} {r o : Nat} {st : List Nat} : loadA cfg 26 σ (.ptr r st o) = (rowAt σ r st).bind fun cs => (take? cs o 36).map V.agg := load_agg ag26 sz26 (by decide)
theorem sta26 {σ : List O} {r o : Nat} {st : List Nat} {us : List V} (hl : us.length = 36) (ho : us.all V.one = true) : storeA cfg 26 σ (.ptr r st o) (.agg us) = (rowAt σ r st).bind fun cs => if o + 36 ≤ cs.length then some (σ.set r (.cells st (splice cs o us))) else none := store_agg sz26 hl ho
theorem bd26 {parts : List (Nat × V)} : buildA cfg 26 parts = (partsAt (fun i => ([(0, 34), (34, 1), (35, 1)] : List (Nat × Nat))[i]?) parts).bind fun l => (fillA [(.i .i64 0), (.i .i64 0), (.i .u8 0), (.i .u8 0), (.i .u8 0), (.i .u8 0), (.i .u8 0), (.i .u8 0), (.i .u8 0), (.i .u8 0), (.i .u8 0), (.i .u8 0), (.i .u8 0), (.i .u8 0), (.i .u8 0), (.i .u8 0), (.i .u8 0), (.i .u8 0), (.i .u8 0), (.i .u8 0), (.i .u8 0), (.i .u8 0), (.i .u8 0), (.i .u8 0), (.i .u8 0), (.i .u8 0), (.i .u8 0), (.i .u8 0), (.i .u8 0), (.i .u8 0), (.i .u8 0), (.i .u8 0), (.i .u8 0), (.i .u8 0), (.i .i64 0), (.i .i64 0)] l).map V.agg := build_struct sh26 pl26 ze26
theorem fi26x0 : cfg.field 26 0 = some (0, 24) := by kernel_rfl
theorem fi26x1 : cfg.field 26 1 = some (34, 3) := by kernel_rfl
theorem fi26x2 : cfg.field 26 2 = some (35, 3) := by kernel_rfl
theorem ld31 {σ : List O} {r o : Nat} {st : List Nat} : loadA cfg 31 σ (.ptr r st o) = (rowAt σ r st).bind fun cs => cs[o]? := load_sc ag31
theorem li31 {σ : List O} {cs : List V} : loadA cfg 31 σ (.iptr cs) = cs[0]? := load_ip ag31
theorem sto31 {σ : List O} {r o : Nat} {st : List Nat} {v : V} (hv : v.one = true) : storeA cfg 31 σ (.ptr r st o) v = (rowAt σ r st).bind fun cs => if o < cs.length then some (σ.set r (.cells st (cs.set o v))) else none := store_sc sz31 hv
theorem ixi31 {r o n : Nat} {i : Int} {st : List Nat} {cap : Option Nat} {k : IntKind} (h0 : 0 ≤ i) (h1 : i < n) : indexAddrA cfg 31 (.sl r st o n 130 cap) (.i k i) = some (.ptr r st (o + i.toNat * 130)) := ixi sh31 sz148 h0 h1
theorem iai31 {n : Nat} {i : Int} {cs : List V} {cl : Bool} {k : IntKind} (h0 : 0 ≤ i) (h1 : i < n) : indexAddrA cfg 31 (.arr cs n cl) (.i k i) = some (.iptr (cs.drop (i.toNat * 130))) := iai sh31 sz148 h0 h1
theorem le31 {σ : List O} {r o n es : Nat} {st : List Nat} {cap : Option Nat} : lenA cfg 31 σ (.sl r st o n es cap) = some (.i .i64 n) := len_sl sh31
theorem lr31 {σ : List O} {n : Nat} {cs : List V} {cl : Bool} : lenA cfg 31 σ (.arr cs n cl) = some (.i .i64 n) := len_arr sh31
theorem ln31 {σ : List O} : lenA cfg 31 σ .nils = some (.i .i64 0) := len_nils sh31
theorem ld32 {σ : List O} {r o : Nat} {st : List Nat} : loadA cfg 32 σ (.ptr r st o) = (rowAt σ r st).bind fun cs => cs[o]? := load_sc ag32
theorem li32 {σ : List O} {cs : List V} : loadA cfg 32 σ (.iptr cs) = cs[0]? := load_ip ag32
theorem sto32 {σ : List O} {r o : Nat} {st : List Nat} {v : V} (hv : v.one = true) : storeA cfg 32 σ (.ptr r st o) v = (rowAt σ r st).bind fun cs => if o < cs.length then some (σ.set r (.cells st (cs.set o v))) else none := store_sc sz32 hv
theorem ixi32 {r o n : Nat} {i : Int} {st : List Nat} {cap : Option Nat} {k : IntKind} (h0 : 0 ≤ i) (h1 : i < n) : indexAddrA cfg 32 (.sl r st o n 129 cap) (.i k i) = some (.ptr r st (o + i.toNat * 129)) := ixi sh32 sz132 h0 h1
theorem iai32 {n : Nat} {i : Int} {cs : List V} {cl : Bool} {k : IntKind} (h0 : 0 ≤ i) (h1 : i < n) : indexAddrA cfg 32 (.arr cs n cl) (.i k i) = some (.iptr (cs.drop (i.toNat * 129))) := iai sh32 sz132 h0 h1
theorem le32 {σ : List O} {r o n es : Nat} {st : List Nat} {cap : Option Nat} : lenA cfg 32 σ (.sl r st o n es cap) = some (.i .i64 n) := len_sl sh32
theorem lr32 {σ : List O} {n : Nat} {cs : List V} {cl : Bool} : lenA cfg 32 σ (.arr cs n cl) = some (.i .i64 n) := len_arr sh32
theorem ln32 {σ : List O} : lenA cfg 32 σ .nils = some (.i .i64 0) := len_nils sh32
theorem lda34 {σ : List O} {r o : Nat} {st : List Nat} : loadA cfg 34 σ (.ptr r st o) = (rowAt σ r st).bind fun cs => (take? cs o 4).map V.agg := load_agg ag34 sz34 (by decide)
theorem sta34 {σ : List O} {r o : Nat} {st : List Nat} {us : List V} (hl : us.length = 4) (ho : us.all V.one = true) : storeA cfg 34 σ (.ptr r st o) (.agg us) = (rowAt σ r st).bind fun cs => if o + 4 ≤ cs.length then some (σ.set r (.cells st (splice cs o us))) else none := store_agg sz34 hl ho
theorem bd34 {parts : List (Nat × V)} : buildA cfg 34 parts = (partsAt (fun i => ([(0, 1), (1, 1), (2, 1), (3, 1)] : List (Nat × Nat))[i]?) parts).bind fun l => (fillA [.nils, .nils, (.i .i64 0), (.b false)] l).map V.agg := build_struct sh34 pl34 ze34
theorem fi34x0 : cfg.field 34 0 = some (0, 31) := by kernel_rfl
theorem fi34x1 : cfg.field 34 1 = some (1, 32) := by kernel_rfl
theorem fi34x2 : cfg.field 34 2 = some (2, 3) := by kernel_rfl
theorem fi34x3 : cfg.field 34 3 = some (3, 4) := by kernel_rfl
theorem ld35 {σ : List O} {r o : Nat} {st : List Nat} : loadA cfg 35 σ (.ptr r st o) = (rowAt σ r st).bind fun cs => cs[o]? := load_sc ag35
theorem li35 {σ : List O} {cs : List V} : loadA cfg 35 σ (.iptr cs) = cs[0]? := load_ip ag35
theorem sto35 {σ : List O} {r o : Nat} {st : List Nat} {v : V} (hv : v.one = true) : storeA cfg 35 σ (.ptr r st o) v = (rowAt σ r st).bind fun cs => if o < cs.length then some (σ.set r (.cells st (cs.set o v))) else none := store_sc sz35 hv
theorem ixi35 {r o n : Nat} {i : Int} {st : List Nat} {cap : Option Nat} {k : IntKind} (h0 : 0 ≤ i) (h1 : i < n) : indexAddrA cfg 35 (.sl r st o n 2 cap) (.i k i) = some (.ptr r st (o + i.toNat * 2)) := ixi sh35 sz134 h0 h1
theorem iai35 {n : Nat} {i : Int} {cs : List V} {cl : Bool} {k : IntKind} (h0 : 0 ≤ i) (h1 : i < n) : indexAddrA cfg 35 (.arr cs n cl) (.i k i) = some (.iptr (cs.drop (i.toNat * 2))) := iai sh35 sz134 h0 h1
theorem le35 {σ : List O} {r o n es : Nat} {st : List Nat} {cap : Option Nat} : lenA cfg 35 σ (.sl r st o n es cap) = some (.i .i64 n) := len_sl sh35
theorem lr35 {σ : List O} {n : Nat} {cs : List V} {cl : Bool} : lenA cfg 35 σ (.arr cs n cl) = some (.i .i64 n) := len_arr sh35
theorem ln35 {σ : List O} : lenA cfg 35 σ .nils = some (.i .i64 0) := len_nils sh35
theorem lda37 {σ : List O} {r o : Nat} {st : List Nat} : loadA cfg 37 σ (.ptr r st o) = (rowAt σ r st).bind fun cs => (take? cs o 2).map V.agg := load_agg ag37 sz37 (by decide)
theorem sta37 {σ : List O} {r o : Nat} {st : List Nat} {us : List V} (hl : us.length = 2) (ho : us.all V.one = true) : storeA cfg 37 σ (.ptr r st o) (.agg us) = (rowAt σ r st).bind fun cs => if o + 2 ≤ cs.length then some (σ.set r (.cells st (splice cs o us))) else none := store_agg sz37 hl ho
theorem bd37 {parts : List (Nat × V)} : buildA cfg 37 parts = (partsAt (fun i => ([(0, 1), (1, 1)] : List (Nat × Nat))[i]?) parts).bind fun l => (fillA [(.i .i64 0), .nils] l).map V.agg := build_struct sh37 pl37 ze37
theorem fi37x0 : cfg.field 37 0 = some (0, 3) := by kernel_rfl
theorem fi37x1 : cfg.field 37 1 = some (1, 35) := by kernel_rfl
theorem ipi38 {r o : Nat} {i : Int} {st : List Nat} {k : IntKind} (h0 : 0 ≤ i) (h1 : i < 2) : indexAddrA cfg 38 (.ptr r st o) (.i k i) = some (.ptr r st (o + i.toNat * 1)) := ipi (m := 2) sh38 sz3 h0 h1
theorem ixv38 {i : Int} {cs : List V} {k : IntKind} (h0 : 0 ≤ i) (h1 : i < 2) : indexA cfg 38 (.agg cs) (.i k i) = cs[i.toNat]? := ixv (m := 2) sh38 sz3 ag3 h0 h1
theorem eq38 {x y : Operand} {us vs : List V} (hu : us.map V.fk = ([(.i .i64), (.i .i64)] : List Fk).map some) (hv : vs.map V.fk = ([(.i .i64), (.i .i64)] : List Fk).map some) : binA cfg .eql 38 x y (.agg us) (.agg vs) = some (.b (eqB us vs)) := (binA_flat fk38 ag38 (by kernel_rfl) hu hv).1
theorem ne38 {x y : Operand} {us vs : List V} (hu : us.map V.fk = ([(.i .i64), (.i .i64)] : List Fk).map some) (hv : vs.map V.fk = ([(.i .i64), (.i .i64)] : List Fk).map some) : binA cfg .neq 38 x y (.agg us) (.agg vs) = some (.b (!eqB us vs)) := (binA_flat fk38 ag38 (by kernel_rfl) hu hv).2
theorem lda38 {σ : List O} {r o : Nat} {st : List Nat} : loadA cfg 38 σ (.ptr r st o) = (rowAt σ r st).bind fun cs => (take? cs o 2).map V.agg := load_agg ag38 sz38 (by decide)
theorem sta38 {σ : List O} {r o : Nat} {st : List Nat} {us : List V} (hl : us.length = 2) (ho : us.all V.one = true) : storeA cfg 38 σ (.ptr r st o) (.agg us) = (rowAt σ r st).bind fun cs => if o + 2 ≤ cs.length then some (σ.set r (.cells st (splice cs o us))) else none := store_agg sz38 hl ho
theorem bd38 {parts : List (Nat × V)} : buildA cfg 38 parts = (partsAt (fun i => some (i * 1, 1)) parts).bind fun l => (fillA [(.i .i64 0), (.i .i64 0)] l).map V.agg := build_array sh38 sz3 ze38
theorem ld39 {σ : List O} {r o : Nat} {st : List Nat} : loadA cfg 39 σ (.ptr r st o) = (rowAt σ r st).bind fun cs => cs[o]? := load_sc ag39
theorem li39 {σ : List O} {cs : List V} : loadA cfg 39 σ (.iptr cs) = cs[0]? := load_ip ag39
theorem sto39 {σ : List O} {r o : Nat} {st : List Nat} {v : V} (hv : v.one = true) : storeA cfg 39 σ (.ptr r st o) v = (rowAt σ r st).bind fun cs => if o < cs.length then some (σ.set r (.cells st (cs.set o v))) else none := store_sc sz39 hv
theorem ix39 {r o n j : Nat} {st : List Nat} {cap : Option Nat} {k : IntKind} (h : j < n) : indexAddrA cfg 39 (.sl r st o n 1 cap) (.i k j) = some (.ptr r st (o + j)) := idx_sl sh39 sz5 h
theorem ia39 {n j : Nat} {cs : List V} {cl : Bool} {k : IntKind} (h : j < n) : indexAddrA cfg 39 (.arr cs n cl) (.i k j) = some (.iptr (cs.drop j)) := idx_arr sh39 sz5 h
theorem mk39 {σ : List O} {st : List Nat} {n : Nat} (h : n ≤ 1000000000000) : makeSliceA cfg 39 (.i .i64 n) (.i .i64 n) σ st = some (.sl σ.length st 0 n 1 (some n), σ ++ [.cells st (List.replicate n (.i .u8 0))]) := make_sc el39 by5 (by omega) (by omega) rfl
theorem ixi39 {r o n : Nat} {i : Int} {st : List Nat} {cap : Option Nat} {k : IntKind} (h0 : 0 ≤ i) (h1 : i < n) : indexAddrA cfg 39 (.sl r st o n 1 cap) (.i k i) = some (.ptr r st (o + i.toNat * 1)) := ixi sh39 sz5 h0 h1
theorem iai39 {n : Nat} {i : Int} {cs : List V} {cl : Bool} {k : IntKind} (h0 : 0 ≤ i) (h1 : i < n) : indexAddrA cfg 39 (.arr cs n cl) (.i k i) = some (.iptr (cs.drop (i.toNat * 1))) := iai sh39 sz5 h0 h1
theorem le39 {σ : List O} {r o n es : Nat} {st : List Nat} {cap : Option Nat} : lenA cfg 39 σ (.sl r st o n es cap) = some (.i .i64 n) := len_sl sh39
theorem lr39 {σ : List O} {n : Nat} {cs : List V} {cl : Bool} : lenA cfg 39 σ (.arr cs n cl) = some (.i .i64 n) := len_arr sh39
theorem ln39 {σ : List O} : lenA cfg 39 σ .nils = some (.i .i64 0) := len_nils sh39
theorem lda41 {σ : List O} {r o : Nat} {st : List Nat} : loadA cfg 41 σ (.ptr r st o) = (rowAt σ r st).bind fun cs => (take? cs o 4).map V.agg := load_agg ag41 sz41 (by decide)
theorem sta41 {σ : List O} {r o : Nat} {st : List Nat} {us : List V} (hl : us.length = 4) (ho : us.all V.one = true) : storeA cfg 41 σ (.ptr r st o) (.agg us) = (rowAt σ r st).bind fun cs => if o + 4 ≤ cs.length then some (σ.set r (.cells st (splice cs o us))) else none := store_agg sz41 hl ho
theorem bd41 {parts : List (Nat × V)} : buildA cfg 41 parts = (partsAt (fun i => ([(0, 2), (2, 1), (3, 1)] : List (Nat × Nat))[i]?) parts).bind fun l => (fillA [(.i .i64 0), (.i .i64 0), (.i .i64 0), .nils] l).map V.agg := build_struct sh41 pl41 ze41
theorem fi41x0 : cfg.field 41 0 = some (0, 38) := by kernel_rfl
theorem fi41x1 : cfg.field 41 1 = some (2, 3) := by kernel_rfl
theorem fi41x2 : cfg.field 41 2 = some (3, 39) := by kernel_rfl
theorem lda43 {σ : List O} {r o : Nat} {st : List Nat} : loadA cfg 43 σ (.ptr r st o) = (rowAt σ r st).bind fun cs => (take? cs o 10).map V.agg := load_agg ag43 sz43 (by decide)
theorem sta43 {σ : List O} {r o : Nat} {st : List Nat} {us : List V} (hl : us.length = 10) (ho : us.all V.one = true) : storeA cfg 43 σ (.ptr r st o) (.agg us) = (rowAt σ r st).bind fun cs => if o + 10 ≤ cs.length then some (σ.set r (.cells st (splice cs o us))) else none := store_agg sz43 hl ho
theorem bd43 {parts : List (Nat × V)} : buildA cfg 43 parts = (partsAt (fun i => ([(0, 4), (4, 2), (6, 4)] : List (Nat × Nat))[i]?) parts).bind fun l => (fillA [.nils, .nils, (.i .i64 0), (.b false), (.i .i64 0), .nils, (.i .i64 0), (.i .i64 0), (.i .i64 0), .nils] l).map V.agg := build_struct sh43 pl43 ze43
theorem fi43x0 : cfg.field 43 0 = some (0, 34) := by kernel_rfl
theorem fi43x1 : cfg.field 43 1 = some (4, 37) := by kernel_rfl
theorem fi43x2 : cfg.field 43 2 = some (6, 41) := by kernel_rfl
theorem ipi47 {r o : Nat} {i : Int} {st : List Nat} {k : IntKind} (h0 : 0 ≤ i) (h1 : i < 128) : indexAddrA cfg 47 (.ptr r st o) (.i k i) = some (.ptr r st (o + i.toNat * 1)) := ipi (m := 128) sh47 sz5 h0 h1
theorem ixv47 {i : Int} {cs : List V} {k : IntKind} (h0 : 0 ≤ i) (h1 : i < 128) : indexA cfg 47 (.agg cs) (.i k i) = cs[i.toNat]? := ixv (m := 128) sh47 sz5 ag5 h0 h1
theorem eq47 {x y : Operand} {us vs : List V} (hu : us.map V.fk = (List.replicate 128 (.i .u8) : List Fk).map some) (hv : vs.map V.fk = (List.replicate 128 (.i .u8) : List Fk).map some) : binA cfg .eql 47 x y (.agg us) (.agg vs) = some (.b (eqB us vs)) := (binA_flat fk47 ag47 (by kernel_rfl) hu hv).1
theorem ne47 {x y : Operand} {us vs : List V} (hu : us.map V.fk = (List.replicate 128 (.i .u8) : List Fk).map some) (hv : vs.map V.fk = (List.replicate 128 (.i .u8) : List Fk).map some) : binA cfg .neq 47 x y (.agg us) (.agg vs) = some (.b (!eqB us vs)) := (binA_flat fk47 ag47 (by kernel_rfl) hu hv).2
theorem lda47 {σ : List O} {r o : Nat} {st : List Nat} : loadA cfg 47 σ (.ptr r st o) = (rowAt σ r st).bind fun cs => (take? cs o 128).map V.agg := load_agg ag47 sz47 (by decide)
theorem sta47 {σ : List O} {r o : Nat} {st : List Nat} {us : List V} (hl : us.length = 128) (ho : us.all V.one = true) : storeA cfg 47 σ (.ptr r st o) (.agg us) = (rowAt σ r st).bind fun cs => if o + 128 ≤ cs.length then some (σ.set r (.cells st (splice cs o us))) else none := store_agg sz47 hl ho
theorem bd47 {parts : List (Nat × V)} : buildA cfg 47 parts = (partsAt (fun i => some (i * 1, 1)) parts).bind fun l => (fillA [(.i .u8 0), (.i .u8 0), (.i .u8 0), (.i .u8 0), (.i .u8 0), (.i .u8 0), (.i .u8 0), (.i .u8 0), (.i .u8 0), (.i .u8 0), (.i .u8 0), (.i .u8 0), (.i .u8 0), (.i .u8 0), (.i .u8 0), (.i .u8 0), (.i .u8 0), (.i .u8 0), (.i .u8 0), (.i .u8 0), (.i .u8 0), (.i .u8 0), (.i .u8 0), (.i .u8 0), (.i .u8 0), (.i .u8 0), (.i .u8 0), (.i .u8 0), (.i .u8 0), (.i .u8 0), (.i .u8 0), (.i .u8 0), (.i .u8 0), (.i .u8 0), (.i .u8 0), (.i .u8 0), (.i .u8 0), (.i .u8 0), (.i .u8 0), (.i .u8 0), (.i .u8 0), (.i .u8 0), (.i .u8 0), (.i .u8 0), (.i .u8 0), (.i .u8 0), (.i .u8 0), (.i .u8 0), (.i .u8 0), (.i .u8 0), (.i .u8 0), (.i .u8 0), (.i .u8 0), (.i .u8 0), (.i .u8 0), (.i .u8 0), (.i .u8 0), (.i .u8 0), (.i .u8 0), (.i .u8 0), (.i .u8 0), (.i .u8 0), (.i .u8 0), (.i .u8 0), (.i .u8 0), (.i .u8 0), (.i .u8 0), (.i .u8 0), (.i .u8 0), (.i .u8 0), (.i .u8 0), (.i .u8 0), (.i .u8 0), (.i .u8 0), (.i .u8 0), (.i .u8 0), (.i .u8 0), (.i .u8 0), (.i .u8 0), (.i .u8 0), (.i .u8 0), (.i .u8 0), (.i .u8 0), (.i .u8 0), (.i .u8 0), (.i .u8 0), (.i .u8 0), (.i .u8 0), (.i .u8 0), (.i .u8 0), (.i .u8 0), (.i .u8 0), (.i .u8 0), (.i .u8 0), (.i .u8 0), (.i .u8 0), (.i .u8 0), (.i .u8 0), (.i .u8 0), (.i .u8 0), (.i .u8 0), (.i .u8 0), (.i .u8 0), (.i .u8 0), (.i .u8 0), (.i .u8 0), (.i .u8 0), (.i .u8 0), (.i .u8 0), (.i .u8 0), (.i .u8 0), (.i .u8 0), (.i .u8 0), (.i .u8 0), (.i .u8 0), (.i .u8 0), (.i .u8 0), (.i .u8 0), (.i .u8 0), (.i .u8 0), (.i .u8 0), (.i .u8 0), (.i .u8 0), (.i .u8 0), (.i .u8 0), (.i .u8 0), (.i .u8 0), (.i .u8 0)] l).map V.agg := build_array sh47 sz5 ze47
theorem ld48 {σ : List O} {r o : Nat} {st : List Nat} : loadA cfg 48 σ (.ptr r st o) = (rowAt σ r st).bind fun cs => cs[o]? := load_sc ag48
theorem li48 {σ : List O} {cs : List V} : loadA cfg 48 σ (.iptr cs) = cs[0]? := load_ip ag48
theorem sto48 {σ : List O} {r o : Nat} {st : List Nat} {v : V} (hv : v.one = true) : storeA cfg 48 σ (.ptr r st o) v = (rowAt σ r st).bind fun cs => if o < cs.length then some (σ.set r (.cells st (cs.set o v))) else none := store_sc sz48 hv
theorem eq85 {x y : Operand} {us vs : List V} (hu : us.map V.fk = (List.replicate 6 (.i .i64) : List Fk).map some) (hv : vs.map V.fk = (List.replicate 6 (.i .i64) : List Fk).map some) : binA cfg .eql 85 x y (.agg us) (.agg vs) = some (.b (eqB us vs)) := (binA_flat fk85 ag85 (by kernel_rfl) hu hv).1
theorem ne85 {x y : Operand} {us vs : List V} (hu : us.map V.fk = (List.replicate 6 (.i .i64) : List Fk).map some) (hv : vs.map V.fk = (List.replicate 6 (.i .i64) : List Fk).map some) : binA cfg .neq 85 x y (.agg us) (.agg vs) = some (.b (!eqB us vs)) := (binA_flat fk85 ag85 (by kernel_rfl) hu hv).2
theorem lda85 {σ : List O} {r o : Nat} {st : List Nat} : loadA cfg 85 σ (.ptr r st o) = (rowAt σ r st).bind fun cs => (take? cs o 6).map V.agg := load_agg ag85 sz85 (by decide)
theorem sta85 {σ : List O} {r o : Nat} {st : List Nat} {us : List V} (hl : us.length = 6) (ho : us.all V.one = true) : storeA cfg 85 σ (.ptr r st o) (.agg us) = (rowAt σ r st).bind fun cs => if o + 6 ≤ cs.length then some (σ.set r (.cells st (splice cs o us))) else none := store_agg sz85 hl ho
theorem bd85 {parts : List (Nat × V)} : buildA cfg 85 parts = (partsAt (fun i => ([(0, 1), (1, 1), (2, 1), (3, 1), (4, 1), (5, 1)] : List (Nat × Nat))[i]?) parts).bind fun l => (fillA [(.i .i64 0), (.i .i64 0), (.i .i64 0), (.i .i64 0), (.i .i64 0), (.i .i64 0)] l).map V.agg := build_struct sh85 pl85 ze85
theorem fi85x0 : cfg.field 85 0 = some (0, 3) := by kernel_rfl
theorem fi85x1 : cfg.field 85 1 = some (1, 3) := by kernel_rfl
theorem fi85x2 : cfg.field 85 2 = some (2, 3) := by kernel_rfl
theorem fi85x3 : cfg.field 85 3 = some (3, 3) := by kernel_rfl
theorem fi85x4 : cfg.field 85 4 = some (4, 3) := by kernel_rfl
theorem fi85x5 : cfg.field 85 5 = some (5, 3) := by kernel_rfl
theorem ipi120 {r o : Nat} {i : Int} {st : List Nat} {k : IntKind} (h0 : 0 ≤ i) (h1 : i < 64) : indexAddrA cfg 120 (.ptr r st o) (.i k i) = some (.ptr r st (o + i.toNat * 1)) := ipi (m := 64) sh120 sz5 h0 h1
theorem ixv120 {i : Int} {cs : List V} {k : IntKind} (h0 : 0 ≤ i) (h1 : i < 64) : indexA cfg 120 (.agg cs) (.i k i) = cs[i.toNat]? := ixv (m := 64) sh120 sz5 ag5 h0 h1
theorem eq120 {x y : Operand} {us vs : List V} (hu : us.map V.fk = (List.replicate 64 (.i .u8) : List Fk).map some) (hv : vs.map V.fk = (List.replicate 64 (.i .u8) : List Fk).map some) : binA cfg .eql 120 x y (.agg us) (.agg vs) = some (.b (eqB us vs)) := (binA_flat fk120 ag120 (by kernel_rfl) hu hv).1
theorem ne120 {x y : Operand} {us vs : List V} (hu : us.map V.fk = (List.replicate 64 (.i .u8) : List Fk).map some) (hv : vs.map V.fk = (List.replicate 64 (.i .u8) : List Fk).map some) : binA cfg .neq 120 x y (.agg us) (.agg vs) = some (.b (!eqB us vs)) := (binA_flat fk120 ag120 (by kernel_rfl) hu hv).2
theorem lda120 {σ : List O} {r o : Nat} {st : List Nat} : loadA cfg 120 σ (.ptr r st o) = (rowAt σ r st).bind fun cs => (take? cs o 64).map V.agg := load_agg ag120 sz120 (by decide)
theorem sta120 {σ : List O} {r o : Nat} {st : List Nat} {us : List V} (hl : us.length = 64) (ho : us.all V.one = true) : storeA cfg 120 σ (.ptr r st o) (.agg us) = (rowAt σ r st).bind fun cs => if o + 64 ≤ cs.length then some (σ.set r (.cells st (splice cs o us))) else none := store_agg sz120 hl ho
theorem bd120 {parts : List (Nat × V)} : buildA cfg 120 parts = (partsAt (fun i => some (i * 1, 1)) parts).bind fun l => (fillA [(.i .u8 0), (.i .u8 0), (.i .u8 0), (.i .u8 0), (.i .u8 0), (.i .u8 0), (.i .u8 0), (.i .u8 0), (.i .u8 0), (.i .u8 0), (.i .u8 0), (.i .u8 0), (.i .u8 0), (.i .u8 0), (.i .u8 0), (.i .u8 0), (.i .u8 0), (.i .u8 0), (.i .u8 0), (.i .u8 0), (.i .u8 0), (.i .u8 0), (.i .u8 0), (.i .u8 0), (.i .u8 0), (.i .u8 0), (.i .u8 0), (.i .u8 0), (.i .u8 0), (.i .u8 0), (.i .u8 0), (.i .u8 0), (.i .u8 0), (.i .u8 0), (.i .u8 0), (.i .u8 0), (.i .u8 0), (.i .u8 0), (.i .u8 0), (.i .u8 0), (.i .u8 0), (.i .u8 0), (.i .u8 0), (.i .u8 0), (.i .u8 0), (.i .u8 0), (.i .u8 0), (.i .u8 0), (.i .u8 0), (.i .u8 0), (.i .u8 0), (.i .u8 0), (.i .u8 0), (.i .u8 0), (.i .u8 0), (.i .u8 0), (.i .u8 0), (.i .u8 0), (.i .u8 0), (.i .u8 0), (.i .u8 0), (.i .u8 0), (.i .u8 0), (.i .u8 0)] l).map V.agg := build_array sh120 sz5 ze120
theorem eq132 {x y : Operand} {us vs : List V} (hu : us.map V.fk = ([(.i .i64)] ++ List.replicate 128 (.i .u8) : List Fk).map some) (hv : vs.map V.fk = ([(.i .i64)] ++ List.replicate 128 (.i .u8) : List Fk).map some) : binA cfg .eql 132 x y (.agg us) (.agg vs) = some (.b (eqB us vs)) := (binA_flat fk132 ag132 (by kernel_rfl) hu hv).1
theorem ne132 {x y : Operand} {us vs : List V} (hu : us.map V.fk = ([(.i .i64)] ++ List.replicate 128 (.i .u8) : List Fk).map some) (hv : vs.map V.fk = ([(.i .i64)] ++ List.replicate 128 (.i .u8) : List Fk).map some) : binA cfg .neq 132 x y (.agg us) (.agg vs) = some (.b (!eqB us vs)) := (binA_flat fk132 ag132 (by kernel_rfl) hu hv).2
theorem lda132 {σ : List O} {r o : Nat} {st : List Nat} : loadA cfg 132 σ (.ptr r st o) = (rowAt σ r st).bind fun cs => (take? cs o 129).map V.agg := load_agg ag132 sz132 (by decide)
theorem sta132 {σ : List O} {r o : Nat} {st : List Nat} {us : List V} (hl : us.length = 129) (ho : us.all V.one = true) : storeA cfg 132 σ (.ptr r st o) (.agg us) = (rowAt σ r st).bind fun cs => if o + 129 ≤ cs.length then some (σ.set r (.cells st (splice cs o us))) else none := store_agg sz132 hl ho
theorem bd132 {parts : List (Nat × V)} : buildA cfg 132 parts = (partsAt (fun i => ([(0, 1), (1, 128)] : List (Nat × Nat))[i]?) parts).bind fun l => (fillA [(.i .i64 0), (.i .u8 0), (.i .u8 0), (.i .u8 0), (.i .u8 0), (.i .u8 0), (.i .u8 0), (.i .u8 0), (.i .u8 0), (.i .u8 0), (.i .u8 0), (.i .u8 0), (.i .u8 0), (.i .u8 0), (.i .u8 0), (.i .u8 0), (.i .u8 0), (.i .u8 0), (.i .u8 0), (.i .u8 0), (.i .u8 0), (.i .u8 0), (.i .u8 0), (.i .u8 0), (.i .u8 0), (.i .u8 0), (.i .u8 0), (.i .u8 0), (.i .u8 0), (.i .u8 0), (.i .u8 0), (.i .u8 0), (.i .u8 0), (.i .u8 0), (.i .u8 0), (.i .u8 0), (.i .u8 0), (.i .u8 0), (.i .u8 0), (.i .u8 0), (.i .u8 0), (.i .u8 0), (.i .u8 0), (.i .u8 0), (.i .u8 0), (.i .u8 0), (.i .u8 0), (.i .u8 0), (.i .u8 0), (.i .u8 0), (.i .u8 0), (.i .u8 0), (.i .u8 0), (.i .u8 0), (.i .u8 0), (.i .u8 0), (.i .u8 0), (.i .u8 0), (.i .u8 0), (.i .u8 0), (.i .u8 0), (.i .u8 0), (.i .u8 0), (.i .u8 0), (.i .u8 0), (.i .u8 0), (.i .u8 0), (.i .u8 0), (.i .u8 0), (.i .u8 0), (.i .u8 0), (.i .u8 0), (.i .u8 0), (.i .u8 0), (.i .u8 0), (.i .u8 0), (.i .u8 0), (.i .u8 0), (.i .u8 0), (.i .u8 0), (.i .u8 0), (.i .u8 0), (.i .u8 0), (.i .u8 0), (.i .u8 0), (.i .u8 0), (.i .u8 0), (.i .u8 0), (.i .u8 0), (.i .u8 0), (.i .u8 0), (.i .u8 0), (.i .u8 0), (.i .u8 0), (.i .u8 0), (.i .u8 0), (.i .u8 0), (.i .u8 0), (.i .u8 0), (.i .u8 0), (.i .u8 0), (.i .u8 0), (.i .u8 0), (.i .u8 0), (.i .u8 0), (.i .u8 0), (.i .u8 0), (.i .u8 0), (.i .u8 0), (.i .u8 0), (.i .u8 0), (.i .u8 0), (.i .u8 0), (.i .u8 0), (.i .u8 0), (.i .u8 0), (.i .u8 0), (.i .u8 0), (.i .u8 0), (.i .u8 0), (.i .u8 0), (.i .u8 0), (.i .u8 0), (.i .u8 0), (.i .u8 0), (.i .u8 0), (.i .u8 0), (.i .u8 0), (.i .u8 0)] l).map V.agg := build_struct sh132 pl132 ze132
theorem fi132x0 : cfg.field 132 0 = some (0, 3) := by kernel_rfl
theorem fi132x1 : cfg.field 132 1 = some (1, 47) := by kernel_rfl
theorem eq134 {x y : Operand} {us vs : List V} (hu : us.map V.fk = ([(.i .i64), (.i .i64)] : List Fk).map some) (hv : vs.map V.fk = ([(.i .i64), (.i .i64)] : List Fk).map some) : binA cfg .eql 134 x y (.agg us) (.agg vs) = some (.b (eqB us vs)) := (binA_flat fk134 ag134 (by kernel_rfl) hu hv).1
theorem ne134 {x y : Operand} {us vs : List V} (hu : us.map V.fk = ([(.i .i64), (.i .i64)] : List Fk).map some) (hv : vs.map V.fk = ([(.i .i64), (.i .i64)] : List Fk).map some) : binA cfg .neq 134 x y (.agg us) (.agg vs) = some (.b (!eqB us vs)) := (binA_flat fk134 ag134 (by kernel_rfl) hu hv).2
theorem lda134 {σ : List O} {r o : Nat} {st : List Nat} : loadA cfg 134 σ (.ptr r st o) = (rowAt σ r st).bind fun cs => (take? cs o 2).map V.agg := load_agg ag134 sz134 (by decide)
theorem sta134 {σ : List O} {r o : Nat} {st : List Nat} {us : List V} (hl : us.length = 2) (ho : us.all V.one = true) : storeA cfg 134 σ (.ptr r st o) (.agg us) = (rowAt σ r st).bind fun cs => if o + 2 ≤ cs.length then some (σ.set r (.cells st (splice cs o us))) else none := store_agg sz134 hl ho
theorem bd134 {parts : List (Nat × V)} : buildA cfg 134 parts = (partsAt (fun i => ([(0, 1), (1, 1)] : List (Nat × Nat))[i]?) parts).bind fun l => (fillA [(.i .i64 0), (.i .i64 0)] l).map V.agg := build_struct sh134 pl134 ze134
theorem fi134x0 : cfg.field 134 0 = some (0, 3) := by kernel_rfl
theorem fi134x1 : cfg.field 134 1 = some (1, 3) := by kernel_rfl
theorem eq148 {x y : Operand} {us vs : List V} (hu : us.map V.fk = (List.replicate 128 (.i .u8) ++ [.b, .b] : List Fk).map some) (hv : vs.map V.fk = (List.replicate 128 (.i .u8) ++ [.b, .b] : List Fk).map some) : binA cfg .eql 148 x y (.agg us) (.agg vs) = some (.b (eqB us vs)) := (binA_flat fk148 ag148 (by kernel_rfl) hu hv).1
theorem ne148 {x y : Operand} {us vs : List V} (hu : us.map V.fk = (List.replicate 128 (.i .u8) ++ [.b, .b] : List Fk).map some) (hv : vs.map V.fk = (List.replicate 128 (.i .u8) ++ [.b, .b] : List Fk).map some) : binA cfg .neq 148 x y (.agg us) (.agg vs) = some (.b (!eqB us vs)) := (binA_flat fk148 ag148 (by kernel_rfl) hu hv).2
theorem lda148 {σ : List O} {r o : Nat} {st : List Nat} : loadA cfg 148 σ (.ptr r st o) = (rowAt σ r st).bind fun cs => (take? cs o 130).map V.agg := load_agg ag148 sz148 (by decide)
theorem sta148 {σ : List O} {r o : Nat} {st : List Nat} {us : List V} (hl : us.length = 130) (ho : us.all V.one = true) : storeA cfg 148 σ (.ptr r st o) (.agg us) = (rowAt σ r st).bind fun cs => if o + 130 ≤ cs.length then some (σ.set r (.cells st (splice cs o us))) else none := store_agg sz148 hl ho
theorem bd148 {parts : List (Nat × V)} : buildA cfg 148 parts = (partsAt (fun i => ([(0, 128), (128, 1), (129, 1)] : List (Nat × Nat))[i]?) parts).bind fun l => (fillA [(.i .u8 0), (.i .u8 0), (.i .u8 0), (.i .u8 0), (.i .u8 0), (.i .u8 0), (.i .u8 0), (.i .u8 0), (.i .u8 0), (.i .u8 0), (.i .u8 0), (.i .u8 0), (.i .u8 0), (.i .u8 0), (.i .u8 0), (.i .u8 0), (.i .u8 0), (.i .u8 0), (.i .u8 0), (.i .u8 0), (.i .u8 0), (.i .u8 0), (.i .u8 0), (.i .u8 0), (.i .u8 0), (.i .u8 0), (.i .u8 0), (.i .u8 0), (.i .u8 0), (.i .u8 0), (.i .u8 0), (.i .u8 0), (.i .u8 0), (.i .u8 0), (.i .u8 0), (.i .u8 0), (.i .u8 0), (.i .u8 0), (.i .u8 0), (.i .u8 0), (.i .u8 0), (.i .u8 0), (.i .u8 0), (.i .u8 0), (.i .u8 0), (.i .u8 0), (.i .u8 0), (.i .u8 0), (.i .u8 0), (.i .u8 0), (.i .u8 0), (.i .u8 0), (.i .u8 0), (.i .u8 0), (.i .u8 0), (.i .u8 0), (.i .u8 0), (.i .u8 0), (.i .u8 0), (.i .u8 0), (.i .u8 0), (.i .u8 0), (.i .u8 0), (.i .u8 0), (.i .u8 0), (.i .u8 0), (.i .u8 0), (.i .u8 0), (.i .u8 0), (.i .u8 0), (.i .u8 0), (.i .u8 0), (.i .u8 0), (.i .u8 0), (.i .u8 0), (.i .u8 0), (.i .u8 0), (.i .u8 0), (.i .u8 0), (.i .u8 0), (.i .u8 0), (.i .u8 0), (.i .u8 0), (.i .u8 0), (.i .u8 0), (.i .u8 0), (.i .u8 0), (.i .u8 0), (.i .u8 0), (.i .u8 0), (.i .u8 0), (.i .u8 0), (.i .u8 0), (.i .u8 0), (.i .u8 0), (.i .u8 0), (.i .u8 0), (.i .u8 0), (.i .u8 0), (.i .u8 0), (.i .u8 0), (.i .u8 0), (.i .u8 0), (.i .u8 0), (.i .u8 0), (.i .u8 0), (.i .u8 0), (.i .u8 0), (.i .u8 0), (.i .u8 0), (.i .u8 0), (.i .u8 0), (.i .u8 0), (.i .u8 0), (.i .u8 0), (.i .u8 0), (.i .u8 0), (.i .u8 0), (.i .u8 0), (.i .u8 0), (.i .u8 0), (.i .u8 0), (.i .u8 0), (.i .u8 0), (.i .u8 0), (.i .u8 0), (.i .u8 0), (.i .u8 0), (.b false), (.b false)] l).map V.agg := build_struct sh148 pl148 ze148
theorem fi148x0 : cfg.field 148 0 = some (0, 47) := by kernel_rfl
theorem fi148x1 : cfg.field 148 1 = some (128, 4) := by kernel_rfl
theorem fi148x2 : cfg.field 148 2 = some (129, 4) := by kernel_rfl
theorem ld183 {σ : List O} {r o : Nat} {st : List Nat} : loadA cfg 183 σ (.ptr r st o) = (rowAt σ r st).bind fun cs => cs[o]? := load_sc ag183
theorem li183 {σ : List O} {cs : List V} : loadA cfg 183 σ (.iptr cs) = cs[0]? := load_ip ag183
theorem sto183 {σ : List O} {r o : Nat} {st : List Nat} {v : V} (hv : v.one = true) : storeA cfg 183 σ (.ptr r st o) v = (rowAt σ r st).bind fun cs => if o < cs.length then some (σ.set r (.cells st (cs.set o v))) else none := store_sc sz183 hv
theorem ld209 {σ : List O} {r o : Nat} {st : List Nat} : loadA cfg 209 σ (.ptr r st o) = (rowAt σ r st).bind fun cs => cs[o]? := load_sc ag209
theorem li209 {σ : List O} {cs : List V} : loadA cfg 209 σ (.iptr cs) = cs[0]? := load_ip ag209
theorem sto209 {σ : List O} {r o : Nat} {st : List Nat} {v : V} (hv : v.one = true) : storeA cfg 209 σ (.ptr r st o) v = (rowAt σ r st).bind fun cs => if o < cs.length then some (σ.set r (.cells st (cs.set o v))) else none := store_sc sz209 hv
theorem ipi210 {r o : Nat} {i : Int} {st : List Nat} {k : IntKind} (h0 : 0 ≤ i) (h1 : i < 2) : indexAddrA cfg 210 (.ptr r st o) (.i k i) = some (.ptr r st (o + i.toNat * 1)) := ipi (m := 2) sh210 sz209 h0 h1
theorem ixv210 {i : Int} {cs : List V} {k : IntKind} (h0 : 0 ≤ i) (h1 : i < 2) : indexA cfg 210 (.agg cs) (.i k i) = cs[i.toNat]? := ixv (m := 2) sh210 sz209 ag209 h0 h1
theorem lda210 {σ : List O} {r o : Nat} {st : List Nat} : loadA cfg 210 σ (.ptr r st o) = (rowAt σ r st).bind fun cs => (take? cs o 2).map V.agg := load_agg ag210 sz210 (by decide)
theorem sta210 {σ : List O} {r o : Nat} {st : List Nat} {us : List V} (hl : us.length = 2) (ho : us.all V.one = true) : storeA cfg 210 σ (.ptr r st o) (.agg us) = (rowAt σ r st).bind fun cs => if o + 2 ≤ cs.length then some (σ.set r (.cells st (splice cs o us))) else none := store_agg sz210 hl ho
theorem bd210 {parts : List (Nat × V)} : buildA cfg 210 parts = (partsAt (fun i => some (i * 1, 1)) parts).bind fun l => (fillA [.nilm, .nilm] l).map V.agg := build_array sh210 sz209 ze210
theorem ld211 {σ : List O} {r o : Nat} {st : List Nat} : loadA cfg 211 σ (.ptr r st o) = (rowAt σ r st).bind fun cs => cs[o]? := load_sc ag211
theorem li211 {σ : List O} {cs : List V} : loadA cfg 211 σ (.iptr cs) = cs[0]? := load_ip ag211
theorem sto211 {σ : List O} {r o : Nat} {st : List Nat} {v : V} (hv : v.one = true) : storeA cfg 211 σ (.ptr r st o) v = (rowAt σ r st).bind fun cs => if o < cs.length then some (σ.set r (.cells st (cs.set o v))) else none := store_sc sz211 hv
theorem dr15x8 {p : List Nat} {s : St} {Q : Ex → St → Prop} (l : List Oper) : Wq cfg 15 p (.region 8 l.toArray true) s Q = Ops cfg p l.toArray l s (Q .normal) := Wp_draw 8 l (show cfg.cls 15 8 = [] from rfl)
theorem dr16x1 {p : List Nat} {s : St} {Q : Ex → St → Prop} (l : List Oper) : Wq cfg 16 p (.region 1 l.toArray true) s Q = TrQ cfg p l.toArray l s [] fun tr s => ([(2, 4), (2, 7), (5, 7)] : List (Nat × Nat)).all (okPair tr) = true ∧ Q .normal s := Wp_drawT 1 l (show cfg.cls 16 1 = [(2, 4), (2, 7), (5, 7)] from rfl) (by decide)
theorem dr41x1 {p : List Nat} {s : St} {Q : Ex → St → Prop} (l : List Oper) : Wq cfg 41 p (.region 1 l.toArray true) s Q = TrQ cfg p l.toArray l s [] fun tr s => ([(1, 0)] : List (Nat × Nat)).all (okPair tr) = true ∧ Q .normal s := Wp_drawT 1 l (show cfg.cls 41 1 = [(1, 0)] from rfl) (by decide)
theorem dr43x4 {p : List Nat} {s : St} {Q : Ex → St → Prop} (l : List Oper) : Wq cfg 43 p (.region 4 l.toArray true) s Q = Ops cfg p l.toArray l s (Q .normal) := Wp_draw 4 l (show cfg.cls 43 4 = [] from rfl)
theorem dr44x13 {p : List Nat} {s : St} {Q : Ex → St → Prop} (l : List Oper) : Wq cfg 44 p (.region 13 l.toArray true) s Q = Ops cfg p l.toArray l s (Q .normal) := Wp_draw 13 l (show cfg.cls 44 13 = [] from rfl)
theorem dr46x3 {p : List Nat} {s : St} {Q : Ex → St → Prop} (l : List Oper) : Wq cfg 46 p (.region 3 l.toArray true) s Q = TrQ cfg p l.toArray l s [] fun tr s => ([(4, 1)] : List (Nat × Nat)).all (okPair tr) = true ∧ Q .normal s := Wp_drawT 3 l (show cfg.cls 46 3 = [(4, 1)] from rfl) (by decide)
theorem dr65x6 {p : List Nat} {s : St} {Q : Ex → St → Prop} (l : List Oper) : Wq cfg 65 p (.region 6 l.toArray true) s Q = Ops cfg p l.toArray l s (Q .normal) := Wp_draw 6 l (show cfg.cls 65 6 = [] from rfl)
theorem dr65x11 {p : List Nat} {s : St} {Q : Ex → St → Prop} (l : List Oper) : Wq cfg 65 p (.region 11 l.toArray true) s Q = Ops cfg p l.toArray l s (Q .normal) := Wp_draw 11 l (show cfg.cls 65 11 = [] from rfl)
theorem dr66x6 {p : List Nat} {s : St} {Q : Ex → St → Prop} (l : List Oper) : Wq cfg 66 p (.region 6 l.toArray true) s Q = Ops cfg p l.toArray l s (Q .normal) := Wp_draw 6 l (show cfg.cls 66 6 = [] from rfl)
theorem dr94x4 {p : List Nat} {s : St} {Q : Ex → St → Prop} (l : List Oper) : Wq cfg 94 p (.region 4 l.toArray true) s Q = Ops cfg p l.toArray l s (Q .normal) := Wp_draw 4 l (show cfg.cls 94 4 = [] from rfl)
theorem dr94x5 {p : List Nat} {s : St} {Q : Ex → St → Prop} (l : List Oper) : Wq cfg 94 p (.region 5 l.toArray true) s Q = Ops cfg p l.toArray l s (Q .normal) := Wp_draw 5 l (show cfg.cls 94 5 = [] from rfl)
theorem dr118x2 {p : List Nat} {s : St} {Q : Ex → St → Prop} (l : List Oper) : Wq cfg 118 p (.region 2 l.toArray true) s Q = TrQ cfg p l.toArray l s [] fun tr s => ([(24, 22)] : List (Nat × Nat)).all (okPair tr) = true ∧ Q .normal s := Wp_drawT 2 l (show cfg.cls 118 2 = [(24, 22)] from rfl) (by decide)
theorem dr137x11 {p : List Nat} {s : St} {Q : Ex → St → Prop} (l : List Oper) : Wq cfg 137 p (.region 11 l.toArray true) s Q = TrQ cfg p l.toArray l s [] fun tr s => ([(8, 5), (8, 7)] : List (Nat × Nat)).all (okPair tr) = true ∧ Q .normal s := Wp_drawT 11 l (show cfg.cls 137 11 = [(8, 5), (8, 7)] from rfl) (by decide)
theorem un4 : cfg.P.underlying 4 = some .bool := Tryz.underlying4
theorem bne4 {x y : Operand} {a b : Bool} : binA cfg .neq 4 x y (.b a) (.b b) = some (.b (!(a == b))) := binA_bneq un4
end Go.Am.R2

/- More facts of types. -/
namespace Go.Am.R2
open Go.Proofs
set_option maxRecDepth 100000
set_option linter.unusedVariables false
set_option linter.unusedSimpArgs false
theorem sh51 : cfg.shape 51 = .other := by kernel_rfl
theorem sz51 : cfg.size 51 = some 1 := by kernel_rfl
theorem by51 : cfg.bytes 51 = 8 := by kernel_rfl
theorem ag51 : cfg.isAgg 51 = some false := by kernel_rfl
theorem kn51 : known cfg 51 = true := by kernel_rfl
theorem ze51 : cfg.zero 51 = some .nilp := by kernel_rfl
theorem sh56 : cfg.shape 56 = .other := by kernel_rfl
theorem sz56 : cfg.size 56 = some 1 := by kernel_rfl
theorem by56 : cfg.bytes 56 = 8 := by kernel_rfl
theorem ag56 : cfg.isAgg 56 = some false := by kernel_rfl
theorem kn56 : known cfg 56 = true := by kernel_rfl
theorem ze56 : cfg.zero 56 = some .nilp := by kernel_rfl
theorem ld51 {σ : List O} {r o : Nat} {st : List Nat} : loadA cfg 51 σ (.ptr r st o) = (rowAt σ r st).bind fun cs => cs[o]? := load_sc ag51
theorem li51 {σ : List O} {cs : List V} : loadA cfg 51 σ (.iptr cs) = cs[0]? := load_ip ag51
theorem sto51 {σ : List O} {r o : Nat} {st : List Nat} {v : V} (hv : v.one = true) : storeA cfg 51 σ (.ptr r st o) v = (rowAt σ r st).bind fun cs => if o < cs.length then some (σ.set r (.cells st (cs.set o v))) else none := store_sc sz51 hv
theorem ld56 {σ : List O} {r o : Nat} {st : List Nat} : loadA cfg 56 σ (.ptr r st o) = (rowAt σ r st).bind fun cs => cs[o]? := load_sc ag56
theorem li56 {σ : List O} {cs : List V} : loadA cfg 56 σ (.iptr cs) = cs[0]? := load_ip ag56
theorem sto56 {σ : List O} {r o : Nat} {st : List Nat} {v : V} (hv : v.one = true) : storeA cfg 56 σ (.ptr r st o) v = (rowAt σ r st).bind fun cs => if o < cs.length then some (σ.set r (.cells st (cs.set o v))) else none := store_sc sz56 hv
theorem dr21x1 {p : List Nat} {s : St} {Q : Ex → St → Prop} (l : List Oper) : Wq cfg 21 p (.region 1 l.toArray true) s Q = Ops cfg p l.toArray l s (Q .normal) := Wp_draw 1 l (show cfg.cls 21 1 = [] from rfl)
theorem dr21x3 {p : List Nat} {s : St} {Q : Ex → St → Prop} (l : List Oper) : Wq cfg 21 p (.region 3 l.toArray true) s Q = Ops cfg p l.toArray l s (Q .normal) := Wp_draw 3 l (show cfg.cls 21 3 = [] from rfl)
theorem dr50x1 {p : List Nat} {s : St} {Q : Ex → St → Prop} (l : List Oper) : Wq cfg 50 p (.region 1 l.toArray true) s Q = Ops cfg p l.toArray l s (Q .normal) := Wp_draw 1 l (show cfg.cls 50 1 = [] from rfl)
end Go.Am.R2

/- Facts of types, all of one type in one: simp takes them apart. -/
namespace Go.Am.R2
theorem Y3 : type_of% (And.intro @sh3 (And.intro @sz3 (And.intro @by3 (And.intro @ag3 (And.intro @kn3 (And.intro @ze3 (And.intro @ld3 (And.intro @li3 (@sto3))))))))) := ⟨@sh3, @sz3, @by3, @ag3, @kn3, @ze3, @ld3, @li3, @sto3⟩
theorem Y4 : type_of% (And.intro @sh4 (And.intro @sz4 (And.intro @by4 (And.intro @ag4 (And.intro @kn4 (And.intro @ze4 (And.intro @ld4 (And.intro @li4 (@sto4))))))))) := ⟨@sh4, @sz4, @by4, @ag4, @kn4, @ze4, @ld4, @li4, @sto4⟩
theorem Y5 : type_of% (And.intro @sh5 (And.intro @sz5 (And.intro @by5 (And.intro @ag5 (And.intro @kn5 (And.intro @ze5 (And.intro @ld5 (And.intro @li5 (@sto5))))))))) := ⟨@sh5, @sz5, @by5, @ag5, @kn5, @ze5, @ld5, @li5, @sto5⟩
theorem Y9 : type_of% (And.intro @sh9 (And.intro @sz9 (And.intro @by9 (And.intro @ag9 (And.intro @kn9 (And.intro @ze9 (And.intro @ld9 (And.intro @li9 (And.intro @sto9 (And.intro @les9 (@ixs9))))))))))) := ⟨@sh9, @sz9, @by9, @ag9, @kn9, @ze9, @ld9, @li9, @sto9, @les9, @ixs9⟩
theorem Y22 : type_of% (And.intro @sh22 (And.intro @sz22 (And.intro @by22 (And.intro @ag22 (And.intro @kn22 (And.intro @ze22 (And.intro @fk22 (And.intro @ipi22 (And.intro @ixv22 (And.intro @eq22 (And.intro @ne22 (And.intro @lda22 (And.intro @sta22 (@bd22)))))))))))))) := ⟨@sh22, @sz22, @by22, @ag22, @kn22, @ze22, @fk22, @ipi22, @ixv22, @eq22, @ne22, @lda22, @sta22, @bd22⟩
theorem Y24 : type_of% (And.intro @sh24 (And.intro @sz24 (And.intro @by24 (And.intro @ag24 (And.intro @kn24 (And.intro @ze24 (And.intro @fk24 (And.intro @pl24 (And.intro @eq24 (And.intro @ne24 (And.intro @lda24 (And.intro @sta24 (And.intro @bd24 (And.intro @fi24x0 (And.intro @fi24x1 (@fi24x2)))))))))))))))) := ⟨@sh24, @sz24, @by24, @ag24, @kn24, @ze24, @fk24, @pl24, @eq24, @ne24, @lda24, @sta24, @bd24, @fi24x0, @fi24x1, @fi24x2⟩
theorem Y26 : type_of% (And.intro @sh26 (And.intro @sz26 (And.intro @by26 (And.intro @ag26 (And.intro @kn26 (And.intro @ze26 (And.intro @fk26 (And.intro @pl26 (And.intro @eq26 (And.intro @ne26 (And.intro @lda26 (And.intro @sta26 (And.intro @bd26 (And.intro @fi26x0 (And.intro @fi26x1 (@fi26x2)))))))))))))))) := ⟨@sh26, @sz26, @by26, @ag26, @kn26, @ze26, @fk26, @pl26, @eq26, @ne26, @lda26, @sta26, @bd26, @fi26x0, @fi26x1, @fi26x2⟩
theorem Y31 : type_of% (And.intro @sh31 (And.intro @sz31 (And.intro @by31 (And.intro @ag31 (And.intro @kn31 (And.intro @el31 (And.intro @ze31 (And.intro @ld31 (And.intro @li31 (And.intro @sto31 (And.intro @ixi31 (And.intro @iai31 (And.intro @le31 (And.intro @lr31 (@ln31))))))))))))))) := ⟨@sh31, @sz31, @by31, @ag31, @kn31, @el31, @ze31, @ld31, @li31, @sto31, @ixi31, @iai31, @le31, @lr31, @ln31⟩
theorem Y32 : type_of% (And.intro @sh32 (And.intro @sz32 (And.intro @by32 (And.intro @ag32 (And.intro @kn32 (And.intro @el32 (And.intro @ze32 (And.intro @ld32 (And.intro @li32 (And.intro @sto32 (And.intro @ixi32 (And.intro @iai32 (And.intro @le32 (And.intro @lr32 (@ln32))))))))))))))) := ⟨@sh32, @sz32, @by32, @ag32, @kn32, @el32, @ze32, @ld32, @li32, @sto32, @ixi32, @iai32, @le32, @lr32, @ln32⟩
theorem Y34 : type_of% (And.intro @sh34 (And.intro @sz34 (And.intro @by34 (And.intro @ag34 (And.intro @kn34 (And.intro @ze34 (And.intro @pl34 (And.intro @lda34 (And.intro @sta34 (And.intro @bd34 (And.intro @fi34x0 (And.intro @fi34x1 (And.intro @fi34x2 (@fi34x3)))))))))))))) := ⟨@sh34, @sz34, @by34, @ag34, @kn34, @ze34, @pl34, @lda34, @sta34, @bd34, @fi34x0, @fi34x1, @fi34x2, @fi34x3⟩
theorem Y35 : type_of% (And.intro @sh35 (And.intro @sz35 (And.intro @by35 (And.intro @ag35 (And.intro @kn35 (And.intro @el35 (And.intro @ze35 (And.intro @ld35 (And.intro @li35 (And.intro @sto35 (And.intro @ixi35 (And.intro @iai35 (And.intro @le35 (And.intro @lr35 (@ln35))))))))))))))) := ⟨@sh35, @sz35, @by35, @ag35, @kn35, @el35, @ze35, @ld35, @li35, @sto35, @ixi35, @iai35, @le35, @lr35, @ln35⟩
theorem Y37 : type_of% (And.intro @sh37 (And.intro @sz37 (And.intro @by37 (And.intro @ag37 (And.intro @kn37 (And.intro @ze37 (And.intro @pl37 (And.intro @lda37 (And.intro @sta37 (And.intro @bd37 (And.intro @fi37x0 (@fi37x1)))))))))))) := ⟨@sh37, @sz37, @by37, @ag37, @kn37, @ze37, @pl37, @lda37, @sta37, @bd37, @fi37x0, @fi37x1⟩
theorem Y38 : type_of% (And.intro @sh38 (And.intro @sz38 (And.intro @by38 (And.intro @ag38 (And.intro @kn38 (And.intro @ze38 (And.intro @fk38 (And.intro @ipi38 (And.intro @ixv38 (And.intro @eq38 (And.intro @ne38 (And.intro @lda38 (And.intro @sta38 (@bd38)))))))))))))) := ⟨@sh38, @sz38, @by38, @ag38, @kn38, @ze38, @fk38, @ipi38, @ixv38, @eq38, @ne38, @lda38, @sta38, @bd38⟩
theorem Y39 : type_of% (And.intro @sh39 (And.intro @sz39 (And.intro @by39 (And.intro @ag39 (And.intro @kn39 (And.intro @el39 (And.intro @ze39 (And.intro @ld39 (And.intro @li39 (And.intro @sto39 (And.intro @ix39 (And.intro @ia39 (And.intro @mk39 (And.intro @ixi39 (And.intro @iai39 (And.intro @le39 (And.intro @lr39 (@ln39)))))))))))))))))) := ⟨@sh39, @sz39, @by39, @ag39, @kn39, @el39, @ze39, @ld39, @li39, @sto39, @ix39, @ia39, @mk39, @ixi39, @iai39, @le39, @lr39, @ln39⟩
theorem Y41 : type_of% (And.intro @sh41 (And.intro @sz41 (And.intro @by41 (And.intro @ag41 (And.intro @kn41 (And.intro @ze41 (And.intro @pl41 (And.intro @lda41 (And.intro @sta41 (And.intro @bd41 (And.intro @fi41x0 (And.intro @fi41x1 (@fi41x2))))))))))))) := ⟨@sh41, @sz41, @by41, @ag41, @kn41, @ze41, @pl41, @lda41, @sta41, @bd41, @fi41x0, @fi41x1, @fi41x2⟩
theorem Y43 : type_of% (And.intro @sh43 (And.intro @sz43 (And.intro @by43 (And.intro @ag43 (And.intro @kn43 (And.intro @ze43 (And.intro @pl43 (And.intro @lda43 (And.intro @sta43 (And.intro @bd43 (And.intro @fi43x0 (And.intro @fi43x1 (@fi43x2))))))))))))) := ⟨@sh43, @sz43, @by43, @ag43, @kn43, @ze43, @pl43, @lda43, @sta43, @bd43, @fi43x0, @fi43x1, @fi43x2⟩
theorem Y47 : type_of% (And.intro @sh47 (And.intro @sz47 (And.intro @by47 (And.intro @ag47 (And.intro @kn47 (And.intro @ze47 (And.intro @fk47 (And.intro @ipi47 (And.intro @ixv47 (And.intro @eq47 (And.intro @ne47 (And.intro @lda47 (And.intro @sta47 (@bd47)))))))))))))) := ⟨@sh47, @sz47, @by47, @ag47, @kn47, @ze47, @fk47, @ipi47, @ixv47, @eq47, @ne47, @lda47, @sta47, @bd47⟩
theorem Y48 : type_of% (And.intro @sh48 (And.intro @sz48 (And.intro @by48 (And.intro @ag48 (And.intro @kn48 (And.intro @ze48 (And.intro @ld48 (And.intro @li48 (@sto48))))))))) := ⟨@sh48, @sz48, @by48, @ag48, @kn48, @ze48, @ld48, @li48, @sto48⟩
theorem Y51 : type_of% (And.intro @sh51 (And.intro @sz51 (And.intro @by51 (And.intro @ag51 (And.intro @kn51 (And.intro @ze51 (And.intro @ld51 (And.intro @li51 (@sto51))))))))) := ⟨@sh51, @sz51, @by51, @ag51, @kn51, @ze51, @ld51, @li51, @sto51⟩
theorem Y56 : type_of% (And.intro @sh56 (And.intro @sz56 (And.intro @by56 (And.intro @ag56 (And.intro @kn56 (And.intro @ze56 (And.intro @ld56 (And.intro @li56 (@sto56))))))))) := ⟨@sh56, @sz56, @by56, @ag56, @kn56, @ze56, @ld56, @li56, @sto56⟩
theorem Y85 : type_of% (And.intro @sh85 (And.intro @sz85 (And.intro @by85 (And.intro @ag85 (And.intro @kn85 (And.intro @ze85 (And.intro @fk85 (And.intro @pl85 (And.intro @eq85 (And.intro @ne85 (And.intro @lda85 (And.intro @sta85 (And.intro @bd85 (And.intro @fi85x0 (And.intro @fi85x1 (And.intro @fi85x2 (And.intro @fi85x3 (And.intro @fi85x4 (@fi85x5))))))))))))))))))) := ⟨@sh85, @sz85, @by85, @ag85, @kn85, @ze85, @fk85, @pl85, @eq85, @ne85, @lda85, @sta85, @bd85, @fi85x0, @fi85x1, @fi85x2, @fi85x3, @fi85x4, @fi85x5⟩
theorem Y120 : type_of% (And.intro @sh120 (And.intro @sz120 (And.intro @by120 (And.intro @ag120 (And.intro @kn120 (And.intro @ze120 (And.intro @fk120 (And.intro @ipi120 (And.intro @ixv120 (And.intro @eq120 (And.intro @ne120 (And.intro @lda120 (And.intro @sta120 (@bd120)))))))))))))) := ⟨@sh120, @sz120, @by120, @ag120, @kn120, @ze120, @fk120, @ipi120, @ixv120, @eq120, @ne120, @lda120, @sta120, @bd120⟩
theorem Y132 : type_of% (And.intro @sh132 (And.intro @sz132 (And.intro @by132 (And.intro @ag132 (And.intro @kn132 (And.intro @ze132 (And.intro @fk132 (And.intro @pl132 (And.intro @eq132 (And.intro @ne132 (And.intro @lda132 (And.intro @sta132 (And.intro @bd132 (And.intro @fi132x0 (@fi132x1))))))))))))))) := ⟨@sh132, @sz132, @by132, @ag132, @kn132, @ze132, @fk132, @pl132, @eq132, @ne132, @lda132, @sta132, @bd132, @fi132x0, @fi132x1⟩
theorem Y134 : type_of% (And.intro @sh134 (And.intro @sz134 (And.intro @by134 (And.intro @ag134 (And.intro @kn134 (And.intro @ze134 (And.intro @fk134 (And.intro @pl134 (And.intro @eq134 (And.intro @ne134 (And.intro @lda134 (And.intro @sta134 (And.intro @bd134 (And.intro @fi134x0 (@fi134x1))))))))))))))) := ⟨@sh134, @sz134, @by134, @ag134, @kn134, @ze134, @fk134, @pl134, @eq134, @ne134, @lda134, @sta134, @bd134, @fi134x0, @fi134x1⟩
theorem Y148 : type_of% (And.intro @sh148 (And.intro @sz148 (And.intro @by148 (And.intro @ag148 (And.intro @kn148 (And.intro @ze148 (And.intro @fk148 (And.intro @pl148 (And.intro @eq148 (And.intro @ne148 (And.intro @lda148 (And.intro @sta148 (And.intro @bd148 (And.intro @fi148x0 (And.intro @fi148x1 (@fi148x2)))))))))))))))) := ⟨@sh148, @sz148, @by148, @ag148, @kn148, @ze148, @fk148, @pl148, @eq148, @ne148, @lda148, @sta148, @bd148, @fi148x0, @fi148x1, @fi148x2⟩
theorem Y183 : type_of% (And.intro @sh183 (And.intro @sz183 (And.intro @by183 (And.intro @ag183 (And.intro @kn183 (And.intro @ze183 (And.intro @ld183 (And.intro @li183 (@sto183))))))))) := ⟨@sh183, @sz183, @by183, @ag183, @kn183, @ze183, @ld183, @li183, @sto183⟩
theorem Y209 : type_of% (And.intro @sh209 (And.intro @sz209 (And.intro @by209 (And.intro @ag209 (And.intro @kn209 (And.intro @ze209 (And.intro @ld209 (And.intro @li209 (@sto209))))))))) := ⟨@sh209, @sz209, @by209, @ag209, @kn209, @ze209, @ld209, @li209, @sto209⟩
theorem Y210 : type_of% (And.intro @sh210 (And.intro @sz210 (And.intro @by210 (And.intro @ag210 (And.intro @kn210 (And.intro @ze210 (And.intro @ipi210 (And.intro @ixv210 (And.intro @lda210 (And.intro @sta210 (@bd210))))))))))) := ⟨@sh210, @sz210, @by210, @ag210, @kn210, @ze210, @ipi210, @ixv210, @lda210, @sta210, @bd210⟩
theorem Y211 : type_of% (And.intro @sh211 (And.intro @sz211 (And.intro @by211 (And.intro @ag211 (And.intro @kn211 (And.intro @ze211 (And.intro @ld211 (And.intro @li211 (@sto211))))))))) := ⟨@sh211, @sz211, @by211, @ag211, @kn211, @ze211, @ld211, @li211, @sto211⟩
end Go.Am.R2

/- More facts of types. -/
namespace Go.Am.R2
open Go.Proofs
set_option maxRecDepth 100000
set_option linter.unusedVariables false
set_option linter.unusedSimpArgs false
theorem sh112 : cfg.shape 112 = .other := by kernel_rfl
theorem sz112 : cfg.size 112 = some 3 := by kernel_rfl
theorem by112 : cfg.bytes 112 = 24 := by kernel_rfl
theorem ag112 : cfg.isAgg 112 = some true := by kernel_rfl
theorem kn112 : known cfg 112 = true := by kernel_rfl
theorem ze112 : cfg.zero 112 = some (.agg [(.i .i64 0), (.i .i64 0), (.i .i64 0)]) := by kernel_rfl
theorem fk112 : flat cfg 20 112 = some ([(.i .i64), (.i .i64), (.i .i64)] : List Fk) := by kernel_rfl
theorem pl112 : cfg.places 112 = some [(0, 1), (1, 1), (2, 1)] := by kernel_rfl
theorem eq112 {x y : Operand} {us vs : List V} (hu : us.map V.fk = ([(.i .i64), (.i .i64), (.i .i64)] : List Fk).map some) (hv : vs.map V.fk = ([(.i .i64), (.i .i64), (.i .i64)] : List Fk).map some) : binA cfg .eql 112 x y (.agg us) (.agg vs) = some (.b (eqB us vs)) := (binA_flat fk112 ag112 (by kernel_rfl) hu hv).1
theorem ne112 {x y : Operand} {us vs : List V} (hu : us.map V.fk = ([(.i .i64), (.i .i64), (.i .i64)] : List Fk).map some) (hv : vs.map V.fk = ([(.i .i64), (.i .i64), (.i .i64)] : List Fk).map some) : binA cfg .neq 112 x y (.agg us) (.agg vs) = some (.b (!eqB us vs)) := (binA_flat fk112 ag112 (by kernel_rfl) hu hv).2
theorem lda112 {σ : List O} {r o : Nat} {st : List Nat} : loadA cfg 112 σ (.ptr r st o) = (rowAt σ r st).bind fun cs => (take? cs o 3).map V.agg := load_agg ag112 sz112 (by decide)
theorem sta112 {σ : List O} {r o : Nat} {st : List Nat} {us : List V} (hl : us.length = 3) (ho : us.all V.one = true) : storeA cfg 112 σ (.ptr r st o) (.agg us) = (rowAt σ r st).bind fun cs => if o + 3 ≤ cs.length then some (σ.set r (.cells st (splice cs o us))) else none := store_agg sz112 hl ho
theorem bd112 {parts : List (Nat × V)} : buildA cfg 112 parts = (partsAt (fun i => ([(0, 1), (1, 1), (2, 1)] : List (Nat × Nat))[i]?) parts).bind fun l => (fillA [(.i .i64 0), (.i .i64 0), (.i .i64 0)] l).map V.agg := build_struct sh112 pl112 ze112
theorem fi112x0 : cfg.field 112 0 = some (0, 3) := by kernel_rfl
theorem fi112x1 : cfg.field 112 1 = some (1, 3) := by kernel_rfl
theorem fi112x2 : cfg.field 112 2 = some (2, 3) := by kernel_rfl
theorem dr25x15 {p : List Nat} {s : St} {Q : Ex → St → Prop} (l : List Oper) : Wq cfg 25 p (.region 15 l.toArray true) s Q = Ops cfg p l.toArray l s (Q .normal) := Wp_draw 15 l (show cfg.cls 25 15 = [] from rfl)
theorem dr71x1 {p : List Nat} {s : St} {Q : Ex → St → Prop} (l : List Oper) : Wq cfg 71 p (.region 1 l.toArray true) s Q = Ops cfg p l.toArray l s (Q .normal) := Wp_draw 1 l (show cfg.cls 71 1 = [] from rfl)
theorem dr70x6 {p : List Nat} {s : St} {Q : Ex → St → Prop} (l : List Oper) : Wq cfg 70 p (.region 6 l.toArray true) s Q = TrQ cfg p l.toArray l s [] fun tr s => ([(6, 3)] : List (Nat × Nat)).all (okPair tr) = true ∧ Q .normal s := Wp_drawT 6 l (show cfg.cls 70 6 = [(6, 3)] from rfl) (by decide)
end Go.Am.R2

/- Facts of types, all of one type in one: simp takes them apart. -/
namespace Go.Am.R2
theorem Y112 : type_of% (And.intro @sh112 (And.intro @sz112 (And.intro @by112 (And.intro @ag112 (And.intro @kn112 (And.intro @ze112 (And.intro @fk112 (And.intro @pl112 (And.intro @eq112 (And.intro @ne112 (And.intro @lda112 (And.intro @sta112 (And.intro @bd112 (And.intro @fi112x0 (And.intro @fi112x1 (@fi112x2)))))))))))))))) := ⟨@sh112, @sz112, @by112, @ag112, @kn112, @ze112, @fk112, @pl112, @eq112, @ne112, @lda112, @sta112, @bd112, @fi112x0, @fi112x1, @fi112x2⟩
end Go.Am.R2

/- More facts of types. -/
namespace Go.Am.R2
open Go.Proofs
set_option maxRecDepth 100000
set_option linter.unusedVariables false
set_option linter.unusedSimpArgs false
theorem sh69 : cfg.shape 69 = .other := by kernel_rfl
theorem sz69 : cfg.size 69 = some 39 := by kernel_rfl
theorem by69 : cfg.bytes 69 = 88 := by kernel_rfl
theorem ag69 : cfg.isAgg 69 = some true := by kernel_rfl
theorem kn69 : known cfg 69 = true := by kernel_rfl
theorem ze69 : cfg.zero 69 = some (.agg [(.i .i64 0), (.i .i64 0), (.i .i64 0), (.i .i64 0), (.i .i64 0), (.i .u8 0), (.i .u8 0), (.i .u8 0), (.i .u8 0), (.i .u8 0), (.i .u8 0), (.i .u8 0), (.i .u8 0), (.i .u8 0), (.i .u8 0), (.i .u8 0), (.i .u8 0), (.i .u8 0), (.i .u8 0), (.i .u8 0), (.i .u8 0), (.i .u8 0), (.i .u8 0), (.i .u8 0), (.i .u8 0), (.i .u8 0), (.i .u8 0), (.i .u8 0), (.i .u8 0), (.i .u8 0), (.i .u8 0), (.i .u8 0), (.i .u8 0), (.i .u8 0), (.i .u8 0), (.i .u8 0), (.i .u8 0), (.i .i64 0), (.i .i64 0)]) := by kernel_rfl
theorem fk69 : flat cfg 20 69 = some (List.replicate 5 (.i .i64) ++ List.replicate 32 (.i .u8) ++ [(.i .i64), (.i .i64)] : List Fk) := by kernel_rfl
theorem pl69 : cfg.places 69 = some [(0, 1), (1, 1), (2, 1), (3, 36)] := by kernel_rfl
theorem sh75 : cfg.shape 75 = .slice 69 := by kernel_rfl
theorem sz75 : cfg.size 75 = some 1 := by kernel_rfl
theorem by75 : cfg.bytes 75 = 24 := by kernel_rfl
theorem ag75 : cfg.isAgg 75 = some false := by kernel_rfl
theorem kn75 : known cfg 75 = true := by kernel_rfl
theorem el75 : cfg.elem 75 = some (69, 39, (.agg [(.i .i64 0), (.i .i64 0), (.i .i64 0), (.i .i64 0), (.i .i64 0), (.i .u8 0), (.i .u8 0), (.i .u8 0), (.i .u8 0), (.i .u8 0), (.i .u8 0), (.i .u8 0), (.i .u8 0), (.i .u8 0), (.i .u8 0), (.i .u8 0), (.i .u8 0), (.i .u8 0), (.i .u8 0), (.i .u8 0), (.i .u8 0), (.i .u8 0), (.i .u8 0), (.i .u8 0), (.i .u8 0), (.i .u8 0), (.i .u8 0), (.i .u8 0), (.i .u8 0), (.i .u8 0), (.i .u8 0), (.i .u8 0), (.i .u8 0), (.i .u8 0), (.i .u8 0), (.i .u8 0), (.i .u8 0), (.i .i64 0), (.i .i64 0)])) := by kernel_rfl
theorem ze75 : cfg.zero 75 = some .nils := by kernel_rfl
theorem eq69 {x y : Operand} {us vs : List V} (hu : us.map V.fk = (List.replicate 5 (.i .i64) ++ List.replicate 32 (.i .u8) ++ [(.i .i64), (.i .i64)] : List Fk).map some) (hv : vs.map V.fk = (List.replicate 5 (.i .i64) ++ List.replicate 32 (.i .u8) ++ [(.i .i64), (.i .i64)] : List Fk).map some) : binA cfg .eql 69 x y (.agg us) (.agg vs) = some (.b (eqB us vs)) := (binA_flat fk69 ag69 (by kernel_rfl) hu hv).1
theorem ne69 {x y : Operand} {us vs : List V} (hu : us.map V.fk = (List.replicate 5 (.i .i64) ++ List.replicate 32 (.i .u8) ++ [(.i .i64), (.i .i64)] : List Fk).map some) (hv : vs.map V.fk = (List.replicate 5 (.i .i64) ++ List.replicate 32 (.i .u8) ++ [(.i .i64), (.i .i64)] : List Fk).map some) : binA cfg .neq 69 x y (.agg us) (.agg vs) = some (.b (!eqB us vs)) := (binA_flat fk69 ag69 (by kernel_rfl) hu hv).2
theorem lda69 {σ : List O} {r o : Nat} {st : List Nat} : loadA cfg 69 σ (.ptr r st o) = (rowAt σ r st).bind fun cs => (take? cs o 39).map V.agg := load_agg ag69 sz69 (by decide)
theorem sta69 {σ : List O} {r o : Nat} {st : List Nat} {us : List V} (hl : us.length = 39) (ho : us.all V.one = true) : storeA cfg 69 σ (.ptr r st o) (.agg us) = (rowAt σ r st).bind fun cs => if o + 39 ≤ cs.length then some (σ.set r (.cells st (splice cs o us))) else none := store_agg sz69 hl ho
theorem bd69 {parts : List (Nat × V)} : buildA cfg 69 parts = (partsAt (fun i => ([(0, 1), (1, 1), (2, 1), (3, 36)] : List (Nat × Nat))[i]?) parts).bind fun l => (fillA [(.i .i64 0), (.i .i64 0), (.i .i64 0), (.i .i64 0), (.i .i64 0), (.i .u8 0), (.i .u8 0), (.i .u8 0), (.i .u8 0), (.i .u8 0), (.i .u8 0), (.i .u8 0), (.i .u8 0), (.i .u8 0), (.i .u8 0), (.i .u8 0), (.i .u8 0), (.i .u8 0), (.i .u8 0), (.i .u8 0), (.i .u8 0), (.i .u8 0), (.i .u8 0), (.i .u8 0), (.i .u8 0), (.i .u8 0), (.i .u8 0), (.i .u8 0), (.i .u8 0), (.i .u8 0), (.i .u8 0), (.i .u8 0), (.i .u8 0), (.i .u8 0), (.i .u8 0), (.i .u8 0), (.i .u8 0), (.i .i64 0), (.i .i64 0)] l).map V.agg := build_struct sh69 pl69 ze69
theorem fi69x0 : cfg.field 69 0 = some (0, 3) := by kernel_rfl
theorem fi69x1 : cfg.field 69 1 = some (1, 3) := by kernel_rfl
theorem fi69x2 : cfg.field 69 2 = some (2, 3) := by kernel_rfl
theorem fi69x3 : cfg.field 69 3 = some (3, 26) := by kernel_rfl
theorem ld75 {σ : List O} {r o : Nat} {st : List Nat} : loadA cfg 75 σ (.ptr r st o) = (rowAt σ r st).bind fun cs => cs[o]? := load_sc ag75
theorem li75 {σ : List O} {cs : List V} : loadA cfg 75 σ (.iptr cs) = cs[0]? := load_ip ag75
theorem sto75 {σ : List O} {r o : Nat} {st : List Nat} {v : V} (hv : v.one = true) : storeA cfg 75 σ (.ptr r st o) v = (rowAt σ r st).bind fun cs => if o < cs.length then some (σ.set r (.cells st (cs.set o v))) else none := store_sc sz75 hv
theorem ixi75 {r o n : Nat} {i : Int} {st : List Nat} {cap : Option Nat} {k : IntKind} (h0 : 0 ≤ i) (h1 : i < n) : indexAddrA cfg 75 (.sl r st o n 39 cap) (.i k i) = some (.ptr r st (o + i.toNat * 39)) := ixi sh75 sz69 h0 h1
theorem iai75 {n : Nat} {i : Int} {cs : List V} {cl : Bool} {k : IntKind} (h0 : 0 ≤ i) (h1 : i < n) : indexAddrA cfg 75 (.arr cs n cl) (.i k i) = some (.iptr (cs.drop (i.toNat * 39))) := iai sh75 sz69 h0 h1
theorem le75 {σ : List O} {r o n es : Nat} {st : List Nat} {cap : Option Nat} : lenA cfg 75 σ (.sl r st o n es cap) = some (.i .i64 n) := len_sl sh75
theorem lr75 {σ : List O} {n : Nat} {cs : List V} {cl : Bool} : lenA cfg 75 σ (.arr cs n cl) = some (.i .i64 n) := len_arr sh75
theorem ln75 {σ : List O} : lenA cfg 75 σ .nils = some (.i .i64 0) := len_nils sh75
theorem dr35x4 {p : List Nat} {s : St} {Q : Ex → St → Prop} (l : List Oper) : Wq cfg 35 p (.region 4 l.toArray true) s Q = Ops cfg p l.toArray l s (Q .normal) := Wp_draw 4 l (show cfg.cls 35 4 = [] from rfl)
theorem dr32x3 {p : List Nat} {s : St} {Q : Ex → St → Prop} (l : List Oper) : Wq cfg 32 p (.region 3 l.toArray true) s Q = TrQ cfg p l.toArray l s [] fun tr s => ([(3, 1)] : List (Nat × Nat)).all (okPair tr) = true ∧ Q .normal s := Wp_drawT 3 l (show cfg.cls 32 3 = [(3, 1)] from rfl) (by decide)
end Go.Am.R2

/- Facts of types, all of one type in one: simp takes them apart. -/
namespace Go.Am.R2
theorem Y69 : type_of% (And.intro @sh69 (And.intro @sz69 (And.intro @by69 (And.intro @ag69 (And.intro @kn69 (And.intro @ze69 (And.intro @fk69 (And.intro @pl69 (And.intro @eq69 (And.intro @ne69 (And.intro @lda69 (And.intro @sta69 (And.intro @bd69 (And.intro @fi69x0 (And.intro @fi69x1 (And.intro @fi69x2 (@fi69x3))))))))))))))))) := ⟨@sh69, @sz69, @by69, @ag69, @kn69, @ze69, @fk69, @pl69, @eq69, @ne69, @lda69, @sta69, @bd69, @fi69x0, @fi69x1, @fi69x2, @fi69x3⟩
theorem Y75 : type_of% (And.intro @sh75 (And.intro @sz75 (And.intro @by75 (And.intro @ag75 (And.intro @kn75 (And.intro @el75 (And.intro @ze75 (And.intro @ld75 (And.intro @li75 (And.intro @sto75 (And.intro @ixi75 (And.intro @iai75 (And.intro @le75 (And.intro @lr75 (@ln75))))))))))))))) := ⟨@sh75, @sz75, @by75, @ag75, @kn75, @el75, @ze75, @ld75, @li75, @sto75, @ixi75, @iai75, @le75, @lr75, @ln75⟩
end Go.Am.R2

/- Volumes: how many sectors, by the program and by the document. -/
namespace Go.Am.R2
open Go.Proofs
set_option maxRecDepth 100000
set_option linter.unusedSimpArgs false
set_option linter.unusedVariables false
variable {σ : List O} {p : List Nat}
def geoV (q : Int) : List V := [.i .i64 (4 * q + 316), .i .i64 (2 * q + 148), .i .i64 2, .i .i64 4, .i .i64 28, .i .i64 (2 * q + 120)]
def geo0 : List V := [.i .i64 0, .i .i64 0, .i .i64 0, .i .i64 0, .i .i64 0, .i .i64 0]
theorem quota_ok {q : Int} (h1 : 4 ≤ q) (h2 : q ≤ 900) : runF cfg 83 [.i .i64 q] σ p = some (.tup [.agg (geoV q), .i .i64 0], σ) := by
  refine run_done rfl rfl Tryz.func83 rfl ?_
  have e1 : (q < 4) = False := eq_false (by omega)
  have e2 : (900 < q) = False := eq_false (by omega)
  simp +contextual (disch := first | omega | exact rfl | decide | exact kpF (by decide) | exact kpT (by decide) | assumption | exact Z2z | exact Z30 | exact Z32 | exact Z31 | exact Z33 | exact Z34 | (simp only [ZI] <;> omega) | simp only [ZK] | (simp only [ZL] <;> assumption)) only [Tryz.f83, ZH, SOp, GOp, ↓Z1c, Int.reduceAdd, Int.reduceSub, Int.reduceMul, Int.reduceNeg, accs, touch, touchM, okPair, Nat.reduceAdd, Nat.reduceLeDiff, Nat.reduceMul, Nat.reduceSub, isV, opA, grdO, grd, Z41, Int.reduceLT, Int.reduceLE, Int.reduceToNat, builtinP, builtinA, changes, fieldAddrA, resA, tupled, ↓reduceIte, Nat.reduceEqDiff, Nat.reduceLT, Z70, Int.reduceEq, Y3, Y85, e1, e2]
  unfold geoV
  rw [show 2 * (28 + (2 * q + 120)) + 20 = 4 * q + 316 by omega, show 28 + (2 * q + 120) = 2 * q + 148 by omega]
theorem quota_no {q : Int} (h : q < 4 ∨ 900 < q) : runF cfg 83 [.i .i64 q] σ p = some (.tup [.agg geo0, .i .i64 1], σ) := by
  refine run_done rfl rfl Tryz.func83 rfl ?_
  by_cases e1 : q < 4
  · simp +contextual (disch := first | omega | exact rfl | decide | exact kpF (by decide) | exact kpT (by decide) | assumption | exact Z2z | exact Z30 | exact Z32 | exact Z31 | exact Z33 | exact Z34 | (simp only [ZI] <;> omega) | simp only [ZK] | (simp only [ZL] <;> assumption)) only [Tryz.f83, ZH, SOp, GOp, ↓Z1c, Int.reduceAdd, Int.reduceSub, Int.reduceMul, Int.reduceNeg, accs, touch, touchM, okPair, Nat.reduceAdd, Nat.reduceLeDiff, Nat.reduceMul, Nat.reduceSub, isV, opA, grdO, grd, Z41, Int.reduceLT, Int.reduceLE, Int.reduceToNat, builtinP, builtinA, changes, fieldAddrA, resA, tupled, ↓reduceIte, Nat.reduceEqDiff, Nat.reduceLT, Z70, Int.reduceEq, Y3, Y85, e1]; rfl
  · have e2 : 900 < q := by omega
    simp +contextual (disch := first | omega | exact rfl | decide | exact kpF (by decide) | exact kpT (by decide) | assumption | exact Z2z | exact Z30 | exact Z32 | exact Z31 | exact Z33 | exact Z34 | (simp only [ZI] <;> omega) | simp only [ZK] | (simp only [ZL] <;> assumption)) only [Tryz.f83, ZH, SOp, GOp, ↓Z1c, Int.reduceAdd, Int.reduceSub, Int.reduceMul, Int.reduceNeg, accs, touch, touchM, okPair, Nat.reduceAdd, Nat.reduceLeDiff, Nat.reduceMul, Nat.reduceSub, isV, opA, grdO, grd, Z41, Int.reduceLT, Int.reduceLE, Int.reduceToNat, builtinP, builtinA, changes, fieldAddrA, resA, tupled, ↓reduceIte, Nat.reduceEqDiff, Nat.reduceLT, Z70, Int.reduceEq, Y3, Y85, e1, e2]; rfl
theorem quota8_ok {q : Int} (h1 : 4 ≤ q) (h2 : q ≤ 900) : runF cfg 90 [.i .i64 q] σ p = some (.tup [.agg (geoV q), .i .i64 0], σ) := by
  refine run_done rfl rfl Tryz.func90 rfl ?_
  have e1 : (q < 4) = False := eq_false (by omega)
  have e2 : (900 < q) = False := eq_false (by omega)
  simp +contextual (disch := first | omega | exact rfl | decide | exact kpF (by decide) | exact kpT (by decide) | assumption | exact Z2z | exact Z30 | exact Z32 | exact Z31 | exact Z33 | exact Z34 | (simp only [ZI] <;> omega) | simp only [ZK] | (simp only [ZL] <;> assumption)) only [Tryz.f90, ZH, SOp, GOp, ↓Z1c, Int.reduceAdd, Int.reduceSub, Int.reduceMul, Int.reduceNeg, accs, touch, touchM, okPair, Nat.reduceAdd, Nat.reduceLeDiff, Nat.reduceMul, Nat.reduceSub, isV, opA, grdO, grd, Z41, Int.reduceLT, Int.reduceLE, Int.reduceToNat, builtinP, builtinA, changes, fieldAddrA, resA, tupled, ↓reduceIte, Nat.reduceEqDiff, Nat.reduceLT, Z70, Int.reduceEq, Y3, Y85, e1, e2]
  unfold geoV
  rw [show 2 * (28 + (2 * q + 120)) + 20 = 4 * q + 316 by omega, show 28 + (2 * q + 120) = 2 * q + 148 by omega]
def sizeOk (n : Int) : Bool := decide (332 ≤ n) && decide (n ≤ 3916) && decide (n % 4 = 0)
def secV (n : Int) : List V := if sizeOk n then [.agg (geoV ((n - 316) / 4)), .i .i64 0] else [.agg geo0, .i .i64 1]
theorem sizeOk_iff {n : Int} : sizeOk n = true ↔ 332 ≤ n ∧ n ≤ 3916 ∧ n % 4 = 0 := by
  simp [sizeOk, and_assoc]
theorem sectors_ok (n : Nat) (hn : n ≤ 140737488355328) : runF cfg 146 [.i .i64 n] σ p = some (.tup (secV n), σ) := by
  refine run_done rfl rfl Tryz.func146 rfl ?_
  have e0 : ((n : Int) < 0) = False := eq_false (by omega)
  have hd : ((n : Int) - 20 - 296).tdiv 4 = ((n : Int) - 316).tdiv 4 := by congr 1; omega
  by_cases hq : 4 ≤ ((n : Int) - 316).tdiv 4 ∧ ((n : Int) - 316).tdiv 4 ≤ 900
  · have hpos : (316 : Int) ≤ n := by
      by_cases h : (316 : Int) ≤ n
      · exact h
      · exfalso
        have h4 : ((n : Int) - 316).tdiv 4 ≤ 0 := by
          rw [show (n : Int) - 316 = -(316 - (n : Int)) by omega, Int.neg_tdiv, Int.tdiv_eq_ediv_of_nonneg (by omega)]; omega
        omega
    have hde : ((n : Int) - 316).tdiv 4 = ((n : Int) - 316) / 4 := Int.tdiv_eq_ediv_of_nonneg (by omega)
    rw [hde] at hq hd
    generalize hqq : ((n : Int) - 316) / 4 = q at *
    have hf := fun (σ : List O) p => quota_ok (σ := σ) (p := p) hq.1 hq.2
    by_cases hs : 4 * q + 316 = (n : Int)
    · have hk : sizeOk n = true := sizeOk_iff.2 (by omega)
      unfold secV
      rw [if_pos hk, hqq]
      unfold geoV at hf ⊢
      simp +contextual (disch := first | omega | exact rfl | decide | exact kpF (by decide) | exact kpT (by decide) | assumption | exact Z2z | exact Z30 | exact Z32 | exact Z31 | exact Z33 | exact Z34 | (simp only [ZI] <;> omega) | simp only [ZK] | (simp only [ZL] <;> assumption)) only [Tryz.f146, ZH, SOp, GOp, ↓Z1c, Int.reduceAdd, Int.reduceSub, Int.reduceMul, Int.reduceNeg, accs, touch, touchM, okPair, Nat.reduceAdd, Nat.reduceLeDiff, Nat.reduceMul, Nat.reduceSub, isV, opA, grdO, grd, Z41, Int.reduceLT, Int.reduceLE, Int.reduceToNat, builtinP, builtinA, changes, fieldAddrA, resA, tupled, ↓reduceIte, Nat.reduceEqDiff, Nat.reduceLT, Z70, Int.reduceEq, Y3, Y48, Y85, e0, hd, hf, hs]
    · have hk : sizeOk n = false := by
        cases h : sizeOk n with
        | false => rfl
        | true => have := sizeOk_iff.1 h; omega
      unfold secV
      rw [hk]
      unfold geoV at hf
      simp +contextual (disch := first | omega | exact rfl | decide | exact kpF (by decide) | exact kpT (by decide) | assumption | exact Z2z | exact Z30 | exact Z32 | exact Z31 | exact Z33 | exact Z34 | (simp only [ZI] <;> omega) | simp only [ZK] | (simp only [ZL] <;> assumption)) only [Tryz.f146, ZH, SOp, GOp, ↓Z1c, Int.reduceAdd, Int.reduceSub, Int.reduceMul, Int.reduceNeg, accs, touch, touchM, okPair, Nat.reduceAdd, Nat.reduceLeDiff, Nat.reduceMul, Nat.reduceSub, isV, opA, grdO, grd, Z41, Int.reduceLT, Int.reduceLE, Int.reduceToNat, builtinP, builtinA, changes, fieldAddrA, resA, tupled, ↓reduceIte, Nat.reduceEqDiff, Nat.reduceLT, Z70, Int.reduceEq, Y3, Y48, Y85, e0, hd, hf, hs]
      rfl
  · have hf := fun (σ : List O) p => quota_no (σ := σ) (p := p) (q := ((n : Int) - 316).tdiv 4) (by omega)
    have hk : sizeOk n = false := by
      cases h : sizeOk n with
      | false => rfl
      | true =>
        have h' := sizeOk_iff.1 h
        rw [Int.tdiv_eq_ediv_of_nonneg (by omega)] at hq
        omega
    have hb : -1000 ≤ ((n : Int) - 316).tdiv 4 ∧ ((n : Int) - 316).tdiv 4 ≤ 140737488355328 := by
      by_cases h : (316 : Int) ≤ n
      · rw [Int.tdiv_eq_ediv_of_nonneg (by omega)]; omega
      · rw [show (n : Int) - 316 = -(316 - (n : Int)) by omega, Int.neg_tdiv, Int.tdiv_eq_ediv_of_nonneg (by omega)]; omega
    unfold secV
    rw [hk]
    simp +contextual (disch := first | omega | exact rfl | decide | exact kpF (by decide) | exact kpT (by decide) | assumption | exact Z2z | exact Z30 | exact Z32 | exact Z31 | exact Z33 | exact Z34 | (simp only [ZI] <;> omega) | simp only [ZK] | (simp only [ZL] <;> assumption)) only [Tryz.f146, ZH, SOp, GOp, ↓Z1c, Int.reduceAdd, Int.reduceSub, Int.reduceMul, Int.reduceNeg, accs, touch, touchM, okPair, Nat.reduceAdd, Nat.reduceLeDiff, Nat.reduceMul, Nat.reduceSub, isV, opA, grdO, grd, Z41, Int.reduceLT, Int.reduceLE, Int.reduceToNat, builtinP, builtinA, changes, fieldAddrA, resA, tupled, ↓reduceIte, Nat.reduceEqDiff, Nat.reduceLT, Z70, Int.reduceEq, Y3, Y48, Y85, e0, hd, hf]
    rfl
theorem sectors8_ok (n : Nat) (hn : n ≤ 140737488355328) : runF cfg 42 [.i .i64 n] σ p = some (.tup (secV n), σ) := by
  refine run_done rfl rfl Tryz.func42 rfl ?_
  simp +contextual (disch := first | omega | exact rfl | decide | exact kpF (by decide) | exact kpT (by decide) | assumption | exact Z2z | exact Z30 | exact Z32 | exact Z31 | exact Z33 | exact Z34 | (simp only [ZI] <;> omega) | simp only [ZK] | (simp only [ZL] <;> assumption)) only [Tryz.f42, ZH, SOp, GOp, ↓Z1c, Int.reduceAdd, Int.reduceSub, Int.reduceMul, Int.reduceNeg, accs, touch, touchM, okPair, Nat.reduceAdd, Nat.reduceLeDiff, Nat.reduceMul, Nat.reduceSub, isV, opA, grdO, grd, Z41, Int.reduceLT, Int.reduceLE, Int.reduceToNat, builtinP, builtinA, changes, fieldAddrA, resA, tupled, ↓reduceIte, Nat.reduceEqDiff, Nat.reduceLT, Z70, Int.reduceEq, Y3, Y85]
  refine Wq.up (fun i s => s.nt = 22 ∧ (∃ L : List O, s.σ = σ ++ (.cells (0 :: p) geo0 :: L)) ∧ s.t.get 0 = some (.i .i64 n) ∧ s.t.get 2 = some (.ptr σ.length (0 :: p) 0) ∧ s.t.get 4 = some (.i .i64 ((i : Int) + 4)) ∧ ∀ j : Nat, j < i → 4 * ((j : Int) + 4) + 316 ≠ n) 897 ?_ ?_
  · refine ⟨rfl, ⟨[], rfl⟩, ?_⟩
    simp +contextual (disch := first | omega | exact rfl | decide | exact kpF (by decide) | exact kpT (by decide) | assumption | exact Z2z | exact Z30 | exact Z32 | exact Z31 | exact Z33 | exact Z34 | (simp only [ZI] <;> omega) | simp only [ZK] | (simp only [ZL] <;> assumption)) only [ZH, SOp, GOp, ↓Z1c, Int.reduceAdd, Int.reduceSub, Int.reduceMul, Int.reduceNeg, accs, touch, touchM, okPair, Nat.reduceAdd, Nat.reduceLeDiff, Nat.reduceMul, Nat.reduceSub, isV, opA, grdO, grd, Z41, Int.reduceLT, Int.reduceLE, Int.reduceToNat, builtinP, builtinA, changes, fieldAddrA, resA, tupled, ↓reduceIte, Nat.reduceEqDiff, Nat.reduceLT, Z70, Int.reduceEq]
    exact fun j hj => absurd hj (by omega)
  · rintro i ⟨t, nt, σ', c⟩ hi ⟨rfl, ⟨L, rfl⟩, g0, g2, g4, hno⟩
    by_cases hlt : i < 897
    · have h1 : (i : Int) + 4 ≤ 900 := by omega
      have hf := fun (σ : List O) p => quota8_ok (σ := σ) (p := p) (q := (i : Int) + 4) (by omega) h1
      unfold geoV at hf
      by_cases he : 4 * ((i : Int) + 4) + 316 = n
      · have hk : sizeOk n = true := sizeOk_iff.2 (by omega)
        have hq : ((n : Int) - 316) / 4 = (i : Int) + 4 := by omega
        unfold secV
        rw [if_pos hk, hq]
        unfold geoV geo0
        simp +contextual (disch := first | omega | exact rfl | decide | exact kpF (by decide) | exact kpT (by decide) | assumption | exact Z2z | exact Z30 | exact Z32 | exact Z31 | exact Z33 | exact Z34 | (simp only [ZI] <;> omega) | simp only [ZK] | (simp only [ZL] <;> assumption)) only [ZH, SOp, GOp, ↓Z1c, Int.reduceAdd, Int.reduceSub, Int.reduceMul, Int.reduceNeg, accs, touch, touchM, okPair, Nat.reduceAdd, Nat.reduceLeDiff, Nat.reduceMul, Nat.reduceSub, isV, opA, grdO, grd, Z41, Int.reduceLT, Int.reduceLE, Int.reduceToNat, builtinP, builtinA, changes, fieldAddrA, resA, tupled, ↓reduceIte, Nat.reduceEqDiff, Nat.reduceLT, Z70, Int.reduceEq, Y3, Y85, g0, g2, g4, h1, hf, he]
      · unfold geo0 at g0 g2 g4 ⊢
        simp +contextual (disch := first | omega | exact rfl | decide | exact kpF (by decide) | exact kpT (by decide) | assumption | exact Z2z | exact Z30 | exact Z32 | exact Z31 | exact Z33 | exact Z34 | (simp only [ZI] <;> omega) | simp only [ZK] | (simp only [ZL] <;> assumption)) only [ZH, SOp, GOp, ↓Z1c, Int.reduceAdd, Int.reduceSub, Int.reduceMul, Int.reduceNeg, accs, touch, touchM, okPair, Nat.reduceAdd, Nat.reduceLeDiff, Nat.reduceMul, Nat.reduceSub, isV, opA, grdO, grd, Z41, Int.reduceLT, Int.reduceLE, Int.reduceToNat, builtinP, builtinA, changes, fieldAddrA, resA, tupled, ↓reduceIte, Nat.reduceEqDiff, Nat.reduceLT, Z70, Int.reduceEq, Y3, Y85, g0, g2, g4, h1, hf, he]
        refine ⟨hlt, ⟨_, rfl⟩, ?_, ?_⟩
        · rw [show (i : Int) + 4 + 1 = ((i + 1 : Nat) : Int) + 4 by omega]
        · intro j hj
          by_cases h : j = i
          · subst h; exact he
          · exact hno j (by omega)
    · have hi' : i = 897 := by omega
      subst hi'
      have hk : sizeOk n = false := by
        cases h : sizeOk n with
        | false => rfl
        | true =>
          have h' := sizeOk_iff.1 h
          have := hno ((n - 332) / 4) (by omega)
          omega
      unfold secV
      rw [hk]
      unfold geo0 at g0 g2 g4 ⊢
      simp +contextual (disch := first | omega | exact rfl | decide | exact kpF (by decide) | exact kpT (by decide) | assumption | exact Z2z | exact Z30 | exact Z32 | exact Z31 | exact Z33 | exact Z34 | (simp only [ZI] <;> omega) | simp only [ZK] | (simp only [ZL] <;> assumption)) only [ZH, SOp, GOp, ↓Z1c, Int.reduceAdd, Int.reduceSub, Int.reduceMul, Int.reduceNeg, accs, touch, touchM, okPair, Nat.reduceAdd, Nat.reduceLeDiff, Nat.reduceMul, Nat.reduceSub, isV, opA, grdO, grd, Z41, Int.reduceLT, Int.reduceLE, Int.reduceToNat, builtinP, builtinA, changes, fieldAddrA, resA, tupled, ↓reduceIte, Nat.reduceEqDiff, Nat.reduceLT, Z70, Int.reduceEq, Y3, Y85, g0, g2, g4, show ((897 : Nat) : Int) + 4 = 901 from rfl]
end Go.Am.R2

/- Slices that stand by themselves. -/
namespace Go.Am.R2
open Go.Proofs
set_option maxRecDepth 100000
set_option linter.unusedSimpArgs false
set_option linter.unusedVariables false
variable {σ : List O} {p : List Nat}
theorem copyv_ok (l : List Int) (h0 : l ≠ []) (hn : l.length ≤ 140737488355328) {x : V} (hx : View σ x (ints .u8 l)) :
    runF cfg 95 [x] σ p = some (.sl σ.length (1 :: p) 0 l.length 1 none, σ ++ [.cells (1 :: p) (ints .u8 l)]) := by
  refine run_done rfl rfl Tryz.func95 rfl ?_
  have hl : l.length ≠ 0 := fun e => h0 (List.eq_nil_of_length_eq_zero e)
  have hx' : ∀ st, appendA cfg 39 σ st (.arr [] 0 true) x = some (.sl σ.length st 0 l.length 1 none, σ ++ [.cells st (ints .u8 l)]) := by
    intro st
    have he := hx.elems
    rw [ints_len] at he
    simp only [appendA, el39, Option.bind_some, he, by5, roomy, take?]
    rw [if_neg hl]
    simp; omega
  simp +contextual (disch := first | omega | exact rfl | decide | exact kpF (by decide) | exact kpT (by decide) | assumption | exact Z2z | exact Z30 | exact Z32 | exact Z31 | exact Z33 | exact Z34 | (simp only [ZI] <;> omega) | simp only [ZK] | (simp only [ZL] <;> assumption)) only [Tryz.f95, ZH, SOp, GOp, ↓Z1c, Int.reduceAdd, Int.reduceSub, Int.reduceMul, Int.reduceNeg, accs, touch, touchM, okPair, Nat.reduceAdd, Nat.reduceLeDiff, Nat.reduceMul, Nat.reduceSub, isV, opA, grdO, grd, Z41, Int.reduceLT, Int.reduceLE, Int.reduceToNat, builtinP, builtinA, changes, fieldAddrA, resA, tupled, ↓reduceIte, Nat.reduceEqDiff, Nat.reduceLT, Z70, Int.reduceEq, buildSliceA, el39, partsAt, DoneQ_keep, sh39, kn39, hx']
theorem copyv_nil {x : V} (hx : View σ x (ints .u8 [])) : runF cfg 95 [x] σ p = some (.arr [] 0 true, σ) := by
  refine run_done rfl rfl Tryz.func95 rfl ?_
  have hx' : ∀ st, appendA cfg 39 σ st (.arr [] 0 true) x = some (.arr [] 0 true, σ) := by
    intro st
    have he := hx.elems
    rw [ints_len] at he
    simp only [appendA, el39, Option.bind_some, he, by5, roomy, take?, List.length_nil, if_true]
  simp +contextual (disch := first | omega | exact rfl | decide | exact kpF (by decide) | exact kpT (by decide) | assumption | exact Z2z | exact Z30 | exact Z32 | exact Z31 | exact Z33 | exact Z34 | (simp only [ZI] <;> omega) | simp only [ZK] | (simp only [ZL] <;> assumption)) only [Tryz.f95, ZH, SOp, GOp, ↓Z1c, Int.reduceAdd, Int.reduceSub, Int.reduceMul, Int.reduceNeg, accs, touch, touchM, okPair, Nat.reduceAdd, Nat.reduceLeDiff, Nat.reduceMul, Nat.reduceSub, isV, opA, grdO, grd, Z41, Int.reduceLT, Int.reduceLE, Int.reduceToNat, builtinP, builtinA, changes, fieldAddrA, resA, tupled, ↓reduceIte, Nat.reduceEqDiff, Nat.reduceLT, Z70, Int.reduceEq, buildSliceA, el39, partsAt, DoneQ_keep, sh39, kn39, hx']
theorem samev_ok (l : List Int) {x y : V} (hx : View σ x (ints .u8 l)) (hy : View σ y (ints .u8 l)) : runF cfg 105 [x, y] σ p = some (.b true, σ) := by
  refine run_done rfl rfl Tryz.func105 rfl ?_
  simp +contextual (disch := first | omega | exact rfl | decide | exact kpF (by decide) | exact kpT (by decide) | assumption | exact Z2z | exact Z30 | exact Z32 | exact Z31 | exact Z33 | exact Z34 | (simp only [ZI] <;> omega) | simp only [ZK] | (simp only [ZL] <;> assumption)) only [Tryz.f105, ZH, SOp, GOp, ↓Z1c, Int.reduceAdd, Int.reduceSub, Int.reduceMul, Int.reduceNeg, accs, touch, touchM, okPair, Nat.reduceAdd, Nat.reduceLeDiff, Nat.reduceMul, Nat.reduceSub, isV, opA, grdO, grd, Z41, Int.reduceLT, Int.reduceLE, Int.reduceToNat, builtinP, builtinA, changes, fieldAddrA, resA, tupled, ↓reduceIte, Nat.reduceEqDiff, Nat.reduceLT, Z70, Int.reduceEq, sh9, hx.str sh39 sh5 sh9, hy.str sh39 sh5 sh9]
/-- A slice that stays, of n elements of z cells. -/
def SV (z : Nat) (x : V) (n : Nat) (els : List V) : Prop := els.length = n * z ∧ (x = .nils ∧ n = 0 ∨ ∃ cl, x = .arr els n cl)
def cpS (n : Nat) (els : List V) : V := if n = 0 then .arr [] 0 true else .arr els n false
theorem cpS_0 {n : Nat} {els : List V} (h : n = 0) : cpS n els = .arr [] 0 true := if_pos h
theorem SV.one {z n : Nat} {x : V} {els : List V} (h : SV z x n els) : x.one = true := by
  obtain ⟨_, ⟨rfl, _⟩ | ⟨cl, rfl⟩⟩ := h <;> rfl
theorem SV.len {C : Cfg} {t e : TypeId} {z n : Nat} {x : V} {els : List V} (h : SV z x n els) (hs : C.shape t = .slice e) (σ : List O) : lenA C t σ x = some (.i .i64 n) := by
  obtain ⟨_, ⟨rfl, rfl⟩ | ⟨cl, rfl⟩⟩ := h
  · exact len_nils hs
  · exact len_arr hs
theorem SV.cp {z n : Nat} {x : V} {els : List V} (h : SV z x n els) : SV z (cpS n els) n els := by
  refine ⟨h.1, .inr ?_⟩
  unfold cpS
  split
  · rename_i h0
    subst h0
    exact ⟨true, by rw [List.eq_nil_of_length_eq_zero (l := els) (by simpa using h.1)]⟩
  · exact ⟨false, rfl⟩
theorem SV.at {C : Cfg} {t e : TypeId} {z n : Nat} {x : V} {els : List V} (h : SV (z + 1) x n els) (hs : C.shape t = .slice e) (hz : C.size e = some (z + 1)) {i : Nat} (hi : i < n) : indexAddrA C t x (.i .i64 i) = some (.iptr (els.drop (i * (z + 1)))) := by
  obtain ⟨_, ⟨rfl, rfl⟩ | ⟨cl, rfl⟩⟩ := h
  · omega
  · have := iai (C := C) (t := t) (cs := els) (n := n) (cl := cl) (k := .i64) (i := (i : Int)) hs hz (by omega) (by omega)
    simpa using this
theorem load_iagg {C : Cfg} {t : TypeId} {n : Nat} {cs : List V} (ha : C.isAgg t = some true) (hz : C.size t = some n) : loadA C t σ (.iptr cs) = (take? cs 0 n).map V.agg := by
  simp [loadA, cellsAt, ha, hz]
theorem one_cpS {n : Nat} {els : List V} : (cpS n els).one = true := by unfold cpS; split <;> rfl
theorem elems_SV {z n : Nat} {x : V} {els : List V} (h : SV z x n els) : elems z σ x = some (n, els) := by
  obtain ⟨h1, ⟨rfl, rfl⟩ | ⟨cl, rfl⟩⟩ := h
  · rw [List.eq_nil_of_length_eq_zero (l := els) (by simpa using h1)]; rfl
  · have : List.take (n * z) els = els := by rw [← h1, List.take_length]
    simp [elems, take?, h1, this]
theorem app_none {C : Cfg} {t e : TypeId} {z : Nat} {zv x : V} {st' : List Nat} (he : C.elem t = some (e, z, zv)) (hx : elems z σ x = some (0, [])) : appendA C t σ st' (.arr [] 0 true) x = some (.arr [] 0 true, σ) := by
  simp [appendA, he, hx]
theorem frz1_sl {base d r n z : Nat} {st : List Nat} {els : List V} {τ : List O} (hr : base ≤ r) (h : rowAt τ r st = some els) (hl : els.length = n * z) (h0 : 0 < n) (hf : ∀ c ∈ els, c.fk ≠ none) : freeze1 base τ (d + 1) (.sl r st 0 n z none) = cpS n els := by
  have hm : els.map (freeze1 base τ d) = els := by
    have : els.map (freeze1 base τ d) = els.map id := List.map_congr_left fun c hc => by
      have := hf c hc
      cases c <;> simp [V.fk] at this <;> cases d <;> rfl
    rw [this, List.map_id]
  unfold cpS
  simp only [freeze1, if_pos hr, h]
  rw [if_neg (by omega), if_neg (by omega), List.drop_zero, ← hl, List.take_length, hm]; rfl
theorem app_some {C : Cfg} {t e : TypeId} {z n B : Nat} {zv x : V} {els : List V} {st' : List Nat} (he : C.elem t = some (e, z, zv)) (hb : C.bytes e = B) (hx : SV z x n els) (hr : n * B ≤ 140737488355328) (h0 : n ≠ 0) : appendA C t σ st' (.arr [] 0 true) x = some (.sl σ.length st' 0 n z none, σ ++ [.cells st' els]) := by
  obtain ⟨m, rfl⟩ : ∃ m, n = m + 1 := ⟨n - 1, by omega⟩
  exact app_empty he hb (elems_SV hx) hr
theorem SV.view {x : V} {cs : List V} {n : Nat} (h : SV 1 x n cs) (σ : List O) : View σ x cs := by
  obtain ⟨h1, ⟨rfl, rfl⟩ | ⟨cl, rfl⟩⟩ := h
  · exact List.eq_nil_of_length_eq_zero (by simpa using h1)
  · rw [Nat.mul_one] at h1; subst h1; exact View.arr σ cs cl
theorem ints_fk {k : IntKind} {l : List Int} : ∀ c ∈ ints k l, c.fk ≠ none := by
  intro c hc
  obtain ⟨x, _, rfl⟩ := List.mem_map.1 hc
  simp [fk_i]
theorem frz1_cpS {base d n : Nat} {τ : List O} {els : List V} : freeze1 base τ d (cpS n els) = cpS n els := by
  unfold cpS; split <;> exact frz1_arr
theorem take_el {z n i : Nat} {els : List V} (hl : els.length = n * z) (hi : i < n) : take? (els.drop (i * z)) 0 z = some ((els.drop (i * z)).take z) := by
  have : i * z + z ≤ n * z := by rw [← Nat.succ_mul]; exact Nat.mul_le_mul_right _ hi
  simp only [take?, List.drop_zero, Nat.zero_add, List.length_drop]
  rw [if_pos (by omega)]
theorem SCall_fnC {C : Cfg} {s : St} {K : St → Prop} {d : Option Nat} {f : Nat} {v : V} {args : List V} : SCall C p d (.fn f [] [v]) args s K = OptQ (runF C f (args ++ [v]) s.σ (s.c :: p)) fun r => K ((⟨s.t, s.nt, r.2, s.c + 1⟩ : St).put d r.1) := rfl
theorem all_one_fk {us : List V} (h : ∀ u ∈ us, u.fk ≠ none) : us.all V.one = true := by
  rw [List.all_eq_true]
  intro u hu
  have := h u hu
  cases u <;> simp [V.fk] at this <;> rfl
end Go.Am.R2

/- Volumes: copied. -/
namespace Go.Am.R2
open Go.Proofs
set_option maxRecDepth 100000
set_option linter.unusedSimpArgs false
set_option linter.unusedVariables false
variable {σ : List O} {p : List Nat}
/-- A disk. -/
structure DiskR where
  sec : V
  ns : Nat
  ses : List V
  cac : V
  nc : Nat
  ces : List V
  fuse : Int
  down : Bool
structure DiskR.ok (d : DiskR) : Prop where
  s : SV 130 d.sec d.ns d.ses
  c : SV 129 d.cac d.nc d.ces
  sf : ∀ i, i < d.ns → ((d.ses.drop (i * 130)).take 130).map V.fk = (List.replicate 128 (.i .u8) ++ [.b, .b] : List Fk).map some
  cf : ∀ i, i < d.nc → ((d.ces.drop (i * 129)).take 129).map V.fk = ([(.i .i64)] ++ List.replicate 128 (.i .u8) : List Fk).map some
  sb : d.ns * 130 ≤ 140737488355328
  cb : d.nc * 136 ≤ 140737488355328
def DiskR.v (d : DiskR) : List V := [d.sec, d.cac, .i .i64 d.fuse, .b d.down]
def DiskR.cp (d : DiskR) : DiskR := { d with sec := cpS d.ns d.ses, cac := cpS d.nc d.ces }
theorem DiskR.ok.cp {d : DiskR} (h : d.ok) : d.cp.ok := ⟨h.s.cp, h.c.cp, h.sf, h.cf, h.sb, h.cb⟩
theorem fks {z n : Nat} {els : List V} {fk : List Fk} (hl : els.length = n * z) (hz : fk.length = z) (h : ∀ i, i < n → ((els.drop (i * z)).take z).map V.fk = fk.map some) : ∀ c ∈ els, c.fk ≠ none := by
  intro c hc
  obtain ⟨j, hj, rfl⟩ := List.mem_iff_getElem.1 hc
  rcases Nat.eq_zero_or_pos z with h0 | hpos
  · subst h0; omega
  · have hq : j / z < n := by rw [Nat.div_lt_iff_lt_mul hpos, ← hl]; exact hj
    have := congrArg (fun l => l[j % z]?) (h (j / z) hq)
    have hm : j % z < z := Nat.mod_lt _ hpos
    have he : j / z * z + j % z = j := Nat.div_add_mod' j z
    simp only [List.getElem?_map, List.getElem?_take, if_pos hm, List.getElem?_drop, he, List.getElem?_eq_getElem hj, Option.map_some, List.getElem?_eq_getElem (show j % z < fk.length by omega)] at this
    intro hn
    rw [hn] at this
    cases this
theorem copy_disk (d : DiskR) (h : d.ok) : runF cfg 47 [.agg d.v] σ p = some (.agg d.cp.v, σ) := by
  have hfs := fks h.s.1 (by decide) h.sf
  have hfc := fks h.c.1 (by decide) h.cf
  refine run_done rfl rfl Tryz.func47 rfl ?_
  have o1 := h.s.one
  have o2 := h.c.one
  have m41 : ∀ (τ : List O) st, buildSliceA cfg 31 0 [] τ st = some (.arr [] 0 true, τ) := fun τ st => by simp [buildSliceA, el31]
  have m42 : ∀ (τ : List O) st, buildSliceA cfg 32 0 [] τ st = some (.arr [] 0 true, τ) := fun τ st => by simp [buildSliceA, el32]
  by_cases hs : d.ns = 0
  · have a1 : ∀ (τ : List O) st, appendA cfg 31 τ st (.arr [] 0 true) d.sec = some (.arr [] 0 true, τ) := fun τ st => app_none el31 (by
      rw [elems_SV h.s, hs, List.eq_nil_of_length_eq_zero (l := d.ses) (by have := h.s.1; rw [hs] at this; simpa using this)])
    by_cases hc : d.nc = 0
    · have a2 : ∀ (τ : List O) st, appendA cfg 32 τ st (.arr [] 0 true) d.cac = some (.arr [] 0 true, τ) := fun τ st => app_none el32 (by
        rw [elems_SV h.c, hc, List.eq_nil_of_length_eq_zero (l := d.ces) (by have := h.c.1; rw [hc] at this; simpa using this)])
      simp +contextual (disch := first | omega | exact rfl | decide | exact kpF (by decide) | exact kpT (by decide) | assumption | exact Z2z | exact Z30 | exact Z32 | exact Z31 | exact Z33 | exact Z34 | (simp only [ZI] <;> omega) | simp only [ZK] | (simp only [ZL] <;> assumption)) only [Tryz.f47, ZH, SOp, GOp, ↓Z1c, Int.reduceAdd, Int.reduceSub, Int.reduceMul, Int.reduceNeg, accs, touch, touchM, okPair, Nat.reduceAdd, Nat.reduceLeDiff, Nat.reduceMul, Nat.reduceSub, isV, opA, grdO, grd, Z41, Int.reduceLT, Int.reduceLE, Int.reduceToNat, builtinP, builtinA, changes, fieldAddrA, resA, tupled, ↓reduceIte, Nat.reduceEqDiff, Nat.reduceLT, Z70, Int.reduceEq, Y3, Y4, Y31, Y32, Y34, Y47, Y132, Y148, DiskR.v, DiskR.cp, a1, a2, m41, m42, o1, o2]
      rw [cpS_0 hs, cpS_0 hc]
    · have a2 : ∀ (τ : List O) st, appendA cfg 32 τ st (.arr [] 0 true) d.cac = _ := fun τ st => app_some el32 by132 h.c h.cb hc
      simp +contextual (disch := first | omega | exact rfl | decide | exact kpF (by decide) | exact kpT (by decide) | assumption | exact Z2z | exact Z30 | exact Z32 | exact Z31 | exact Z33 | exact Z34 | (simp only [ZI] <;> omega) | simp only [ZK] | (simp only [ZL] <;> assumption)) only [Tryz.f47, ZH, SOp, GOp, ↓Z1c, Int.reduceAdd, Int.reduceSub, Int.reduceMul, Int.reduceNeg, accs, touch, touchM, okPair, Nat.reduceAdd, Nat.reduceLeDiff, Nat.reduceMul, Nat.reduceSub, isV, opA, grdO, grd, Z41, Int.reduceLT, Int.reduceLE, Int.reduceToNat, builtinP, builtinA, changes, fieldAddrA, resA, tupled, ↓reduceIte, Nat.reduceEqDiff, Nat.reduceLT, Z70, Int.reduceEq, Y3, Y4, Y31, Y32, Y34, Y47, Y132, Y148, DiskR.v, DiskR.cp, a1, a2, m41, m42, o1, o2]
      rw [frz1_sl (els := d.ces) (by omega) (by rw [rowAt_app]; simp [rowAt]) h.c.1 (by omega) hfc]
      rw [cpS_0 hs]
  · have a1 : ∀ (τ : List O) st, appendA cfg 31 τ st (.arr [] 0 true) d.sec = _ := fun τ st => app_some el31 by148 h.s h.sb hs
    by_cases hc : d.nc = 0
    · have a2 : ∀ (τ : List O) st, appendA cfg 32 τ st (.arr [] 0 true) d.cac = some (.arr [] 0 true, τ) := fun τ st => app_none el32 (by
        rw [elems_SV h.c, hc, List.eq_nil_of_length_eq_zero (l := d.ces) (by have := h.c.1; rw [hc] at this; simpa using this)])
      simp +contextual (disch := first | omega | exact rfl | decide | exact kpF (by decide) | exact kpT (by decide) | assumption | exact Z2z | exact Z30 | exact Z32 | exact Z31 | exact Z33 | exact Z34 | (simp only [ZI] <;> omega) | simp only [ZK] | (simp only [ZL] <;> assumption)) only [Tryz.f47, ZH, SOp, GOp, ↓Z1c, Int.reduceAdd, Int.reduceSub, Int.reduceMul, Int.reduceNeg, accs, touch, touchM, okPair, Nat.reduceAdd, Nat.reduceLeDiff, Nat.reduceMul, Nat.reduceSub, isV, opA, grdO, grd, Z41, Int.reduceLT, Int.reduceLE, Int.reduceToNat, builtinP, builtinA, changes, fieldAddrA, resA, tupled, ↓reduceIte, Nat.reduceEqDiff, Nat.reduceLT, Z70, Int.reduceEq, Y3, Y4, Y31, Y32, Y34, Y47, Y132, Y148, DiskR.v, DiskR.cp, a1, a2, m41, m42, o1, o2]
      rw [frz1_sl (els := d.ses) (by omega) (by rw [rowAt_app]; simp [rowAt]) h.s.1 (by omega) hfs]
      rw [cpS_0 hc]
    · have a2 : ∀ (τ : List O) st, appendA cfg 32 τ st (.arr [] 0 true) d.cac = _ := fun τ st => app_some el32 by132 h.c h.cb hc
      simp +contextual (disch := first | omega | exact rfl | decide | exact kpF (by decide) | exact kpT (by decide) | assumption | exact Z2z | exact Z30 | exact Z32 | exact Z31 | exact Z33 | exact Z34 | (simp only [ZI] <;> omega) | simp only [ZK] | (simp only [ZL] <;> assumption)) only [Tryz.f47, ZH, SOp, GOp, ↓Z1c, Int.reduceAdd, Int.reduceSub, Int.reduceMul, Int.reduceNeg, accs, touch, touchM, okPair, Nat.reduceAdd, Nat.reduceLeDiff, Nat.reduceMul, Nat.reduceSub, isV, opA, grdO, grd, Z41, Int.reduceLT, Int.reduceLE, Int.reduceToNat, builtinP, builtinA, changes, fieldAddrA, resA, tupled, ↓reduceIte, Nat.reduceEqDiff, Nat.reduceLT, Z70, Int.reduceEq, Y3, Y4, Y31, Y32, Y34, Y47, Y132, Y148, DiskR.v, DiskR.cp, a1, a2, m41, m42, o1, o2]
      rw [frz1_sl (els := d.ses) (by omega) (by rw [rowAt_app]; simp [rowAt]) h.s.1 (by omega) hfs]
      rw [frz1_sl (els := d.ces) (by omega) (by rw [rowAt_app]; simp [rowAt]) h.c.1 (by omega) hfc]
end Go.Am.R2

/- Volumes: copied whole. -/
namespace Go.Am.R2
open Go.Proofs
set_option maxRecDepth 100000
set_option linter.unusedSimpArgs false
set_option linter.unusedVariables false
variable {σ : List O} {p : List Nat}
def prV (l : List (Int × Int)) : List V := l.flatMap fun x => [.i .i64 x.1, .i .i64 x.2]
theorem prV_len (l : List (Int × Int)) : (prV l).length = l.length * 2 := by
  induction l with
  | nil => rfl
  | cons a l ih => rw [prV, List.flatMap_cons, List.length_append, ← prV, ih]; simp; omega
theorem prV_cons (a : Int × Int) (l : List (Int × Int)) : prV (a :: l) = .i .i64 a.1 :: .i .i64 a.2 :: prV l := rfl
theorem prV_fk (l : List (Int × Int)) : ∀ c ∈ prV l, c.fk ≠ none := by
  intro c hc
  obtain ⟨x, _, hx⟩ := List.mem_flatMap.1 hc
  simp at hx
  rcases hx with rfl | rfl <;> simp [fk_i]
theorem prV_drop (l : List (Int × Int)) : ∀ (i : Nat) (h : i < l.length), (prV l).drop (i * 2) = .i .i64 l[i].1 :: .i .i64 l[i].2 :: prV (l.drop (i + 1)) := by
  induction l with
  | nil => intro i h; simp at h
  | cons a l ih =>
    intro i h
    cases i with
    | zero => rfl
    | succ i =>
      have := ih i (by simpa using h)
      rw [show (i + 1) * 2 = i * 2 + 1 + 1 by omega, prV_cons, List.drop_succ_cons, List.drop_succ_cons, this]
      simp
/-- A list of replaced sectors. -/
structure RemapR where
  gen : Int
  prs : V
  pl : List (Int × Int)
structure RemapR.ok (m : RemapR) : Prop where
  s : SV 2 m.prs m.pl.length (prV m.pl)
  b : m.pl.length * 16 ≤ 140737488355328
def RemapR.v (m : RemapR) : List V := [.i .i64 m.gen, m.prs]
def RemapR.cp (m : RemapR) : RemapR := { m with prs := cpS m.pl.length (prV m.pl) }
theorem RemapR.ok.cp {m : RemapR} (h : m.ok) : m.cp.ok := ⟨h.s.cp, h.b⟩
theorem copy_remap (m : RemapR) (h : m.ok) : runF cfg 48 [.agg m.v] σ p = some (.agg m.cp.v, σ) := by
  refine run_done rfl rfl Tryz.func48 rfl ?_
  have o1 := h.s.one
  have m45 : ∀ (τ : List O) st, buildSliceA cfg 35 0 [] τ st = some (.arr [] 0 true, τ) := fun τ st => by simp [buildSliceA, el35]
  by_cases hs : m.pl.length = 0
  · have a1 : ∀ (τ : List O) st, appendA cfg 35 τ st (.arr [] 0 true) m.prs = some (.arr [] 0 true, τ) := fun τ st => app_none el35 (by
      rw [elems_SV h.s, hs, List.eq_nil_of_length_eq_zero (l := prV m.pl) (by have := h.s.1; rw [hs] at this; simpa using this)])
    simp +contextual (disch := first | omega | exact rfl | decide | exact kpF (by decide) | exact kpT (by decide) | assumption | exact Z2z | exact Z30 | exact Z32 | exact Z31 | exact Z33 | exact Z34 | (simp only [ZI] <;> omega) | simp only [ZK] | (simp only [ZL] <;> assumption)) only [Tryz.f48, ZH, SOp, GOp, ↓Z1c, Int.reduceAdd, Int.reduceSub, Int.reduceMul, Int.reduceNeg, accs, touch, touchM, okPair, Nat.reduceAdd, Nat.reduceLeDiff, Nat.reduceMul, Nat.reduceSub, isV, opA, grdO, grd, Z41, Int.reduceLT, Int.reduceLE, Int.reduceToNat, builtinP, builtinA, changes, fieldAddrA, resA, tupled, ↓reduceIte, Nat.reduceEqDiff, Nat.reduceLT, Z70, Int.reduceEq, Y3, Y35, Y37, Y134, RemapR.v, RemapR.cp, a1, m45, o1]
    rw [cpS_0 hs]
  · have a1 : ∀ (τ : List O) st, appendA cfg 35 τ st (.arr [] 0 true) m.prs = _ := fun τ st => app_some el35 by134 h.s h.b hs
    simp +contextual (disch := first | omega | exact rfl | decide | exact kpF (by decide) | exact kpT (by decide) | assumption | exact Z2z | exact Z30 | exact Z32 | exact Z31 | exact Z33 | exact Z34 | (simp only [ZI] <;> omega) | simp only [ZK] | (simp only [ZL] <;> assumption)) only [Tryz.f48, ZH, SOp, GOp, ↓Z1c, Int.reduceAdd, Int.reduceSub, Int.reduceMul, Int.reduceNeg, accs, touch, touchM, okPair, Nat.reduceAdd, Nat.reduceLeDiff, Nat.reduceMul, Nat.reduceSub, isV, opA, grdO, grd, Z41, Int.reduceLT, Int.reduceLE, Int.reduceToNat, builtinP, builtinA, changes, fieldAddrA, resA, tupled, ↓reduceIte, Nat.reduceEqDiff, Nat.reduceLT, Z70, Int.reduceEq, Y3, Y35, Y37, Y134, RemapR.v, RemapR.cp, a1, m45, o1]
    rw [frz1_sl (els := prV m.pl) (by omega) (by rw [rowAt_app]; simp [rowAt]) h.s.1 (by omega) (prV_fk _)]
/-- Which blocks are taken. -/
structure SpaceR where
  at0 : Int
  at1 : Int
  size : Int
  st : V
  sl : List Int
structure SpaceR.ok (s : SpaceR) : Prop where
  sv : SV 1 s.st s.sl.length (ints .u8 s.sl)
  h : ∀ x ∈ s.sl, 0 ≤ x ∧ x ≤ 255
  b : s.sl.length ≤ 140737488355328
def SpaceR.v (s : SpaceR) : List V := [.i .i64 s.at0, .i .i64 s.at1, .i .i64 s.size, s.st]
def SpaceR.cp (s : SpaceR) : SpaceR := { s with st := cpS s.sl.length (ints .u8 s.sl) }
theorem SpaceR.ok.cp {s : SpaceR} (h : s.ok) : s.cp.ok := ⟨h.sv.cp, h.h, h.b⟩
theorem copy_space (s : SpaceR) (h : s.ok) : runF cfg 49 [.agg s.v] σ p = some (.agg s.cp.v, σ) := by
  refine run_done rfl rfl Tryz.func49 rfl ?_
  have o1 := h.sv.one
  by_cases hs : s.sl.length = 0
  · have hn : s.sl = [] := List.eq_nil_of_length_eq_zero hs
    have c1 : ∀ (τ : List O) q, runF cfg 95 [s.st] τ q = some (.arr [] 0 true, τ) := fun τ q => copyv_nil (by have := h.sv.view τ; rwa [hn] at this)
    simp +contextual (disch := first | omega | exact rfl | decide | exact kpF (by decide) | exact kpT (by decide) | assumption | exact Z2z | exact Z30 | exact Z32 | exact Z31 | exact Z33 | exact Z34 | (simp only [ZI] <;> omega) | simp only [ZK] | (simp only [ZL] <;> assumption)) only [Tryz.f49, ZH, SOp, GOp, ↓Z1c, Int.reduceAdd, Int.reduceSub, Int.reduceMul, Int.reduceNeg, accs, touch, touchM, okPair, Nat.reduceAdd, Nat.reduceLeDiff, Nat.reduceMul, Nat.reduceSub, isV, opA, grdO, grd, Z41, Int.reduceLT, Int.reduceLE, Int.reduceToNat, builtinP, builtinA, changes, fieldAddrA, resA, tupled, ↓reduceIte, Nat.reduceEqDiff, Nat.reduceLT, Z70, Int.reduceEq, Y3, Y5, Y38, Y39, Y41, SpaceR.v, SpaceR.cp, c1, o1]
    rw [cpS_0 hs]
  · have c1 := fun (τ : List O) q => copyv_ok (σ := τ) (p := q) (x := s.st) s.sl (fun e => hs (by rw [e]; rfl)) h.b (h.sv.view τ)
    simp +contextual (disch := first | omega | exact rfl | decide | exact kpF (by decide) | exact kpT (by decide) | assumption | exact Z2z | exact Z30 | exact Z32 | exact Z31 | exact Z33 | exact Z34 | (simp only [ZI] <;> omega) | simp only [ZK] | (simp only [ZL] <;> assumption)) only [Tryz.f49, ZH, SOp, GOp, ↓Z1c, Int.reduceAdd, Int.reduceSub, Int.reduceMul, Int.reduceNeg, accs, touch, touchM, okPair, Nat.reduceAdd, Nat.reduceLeDiff, Nat.reduceMul, Nat.reduceSub, isV, opA, grdO, grd, Z41, Int.reduceLT, Int.reduceLE, Int.reduceToNat, builtinP, builtinA, changes, fieldAddrA, resA, tupled, ↓reduceIte, Nat.reduceEqDiff, Nat.reduceLT, Z70, Int.reduceEq, Y3, Y5, Y38, Y39, Y41, SpaceR.v, SpaceR.cp, c1, o1]
    rw [frz1_sl (els := ints .u8 s.sl) (by omega) (by rw [rowAt_app]; simp [rowAt]) h.sv.1 (by omega) ints_fk]
/-- A volume. -/
structure VolR where
  d : DiskR
  m : RemapR
  s : SpaceR
structure VolR.ok (v : VolR) : Prop where
  d : v.d.ok
  m : v.m.ok
  s : v.s.ok
def VolR.v (v : VolR) : List V := [v.d.sec, v.d.cac, .i .i64 v.d.fuse, .b v.d.down, .i .i64 v.m.gen, v.m.prs, .i .i64 v.s.at0, .i .i64 v.s.at1, .i .i64 v.s.size, v.s.st]
theorem tk04 {a0 a1 a2 a3 a4 a5 a6 a7 a8 a9 : V} : take? [a0, a1, a2, a3, a4, a5, a6, a7, a8, a9] 0 4 = some [a0, a1, a2, a3] := rfl
theorem tk42 {a0 a1 a2 a3 a4 a5 a6 a7 a8 a9 : V} : take? [a0, a1, a2, a3, a4, a5, a6, a7, a8, a9] 4 2 = some [a4, a5] := rfl
theorem tk64 {a0 a1 a2 a3 a4 a5 a6 a7 a8 a9 : V} : take? [a0, a1, a2, a3, a4, a5, a6, a7, a8, a9] 6 4 = some [a6, a7, a8, a9] := rfl
theorem tk62 {a0 a1 a2 a3 a4 a5 a6 a7 a8 a9 : V} : take? [a0, a1, a2, a3, a4, a5, a6, a7, a8, a9] 6 2 = some [a6, a7] := rfl
theorem spl04 {a0 a1 a2 a3 a4 a5 a6 a7 a8 a9 b0 b1 b2 b3 : V} : splice [a0, a1, a2, a3, a4, a5, a6, a7, a8, a9] 0 [b0, b1, b2, b3] = [b0, b1, b2, b3, a4, a5, a6, a7, a8, a9] := rfl
theorem spl42 {a0 a1 a2 a3 a4 a5 a6 a7 a8 a9 b0 b1 : V} : splice [a0, a1, a2, a3, a4, a5, a6, a7, a8, a9] 4 [b0, b1] = [a0, a1, a2, a3, b0, b1, a6, a7, a8, a9] := rfl
theorem spl64 {a0 a1 a2 a3 a4 a5 a6 a7 a8 a9 b0 b1 b2 b3 : V} : splice [a0, a1, a2, a3, a4, a5, a6, a7, a8, a9] 6 [b0, b1, b2, b3] = [a0, a1, a2, a3, a4, a5, b0, b1, b2, b3] := rfl
def VolR.cp (v : VolR) : VolR := ⟨v.d.cp, v.m.cp, v.s.cp⟩
theorem VolR.ok.cp {v : VolR} (h : v.ok) : v.cp.ok := ⟨h.d.cp, h.m.cp, h.s.cp⟩
theorem copy_vol (v : VolR) (h : v.ok) : runF cfg 16 [.agg v.v] σ p = some (.agg v.cp.v, σ) := by
  refine run_done rfl rfl Tryz.func16 rfl ?_
  have o1 := h.d.s.one
  have o2 := h.d.c.one
  have o3 := h.m.s.one
  have o4 := h.s.sv.one
  have c1 := fun (τ : List O) q => copy_disk (σ := τ) (p := q) v.d h.d
  have c2 := fun (τ : List O) q => copy_remap (σ := τ) (p := q) v.m h.m
  have c3 := fun (τ : List O) q => copy_space (σ := τ) (p := q) v.s h.s
  have n1 := h.d.s.cp.one
  have n2 := h.d.c.cp.one
  have n3 := h.m.s.cp.one
  have n4 := h.s.sv.cp.one
  have nA : ((cpS v.d.ns v.d.ses).one && (cpS v.d.nc v.d.ces).one) = true := by rw [one_cpS, one_cpS]; rfl
  have nB : ((cpS v.d.ns v.d.ses).one && ((cpS v.d.nc v.d.ces).one && ((cpS v.m.pl.length (prV v.m.pl)).one && (cpS v.s.sl.length (ints .u8 v.s.sl)).one))) = true := by rw [one_cpS, one_cpS, one_cpS, one_cpS]; rfl
  simp only [DiskR.v, DiskR.cp, RemapR.v, RemapR.cp, SpaceR.v, SpaceR.cp] at c1 c2 c3
  simp +contextual (disch := first | omega | exact rfl | decide | exact kpF (by decide) | exact kpT (by decide) | assumption | exact Z2z | exact Z30 | exact Z32 | exact Z31 | exact Z33 | exact Z34 | (simp only [ZI] <;> omega) | simp only [ZK] | (simp only [ZL] <;> assumption)) only [Tryz.f16, ZH, SOp, GOp, ↓Z1c, Int.reduceAdd, Int.reduceSub, Int.reduceMul, Int.reduceNeg, accs, touch, touchM, okPair, Nat.reduceAdd, Nat.reduceLeDiff, Nat.reduceMul, Nat.reduceSub, isV, opA, grdO, grd, Z41, Int.reduceLT, Int.reduceLE, Int.reduceToNat, builtinP, builtinA, changes, fieldAddrA, resA, tupled, ↓reduceIte, Nat.reduceEqDiff, Nat.reduceLT, Z70, Int.reduceEq, dr16x1, Y3, Y4, Y5, Y31, Y32, Y34, Y35, Y37, Y38, Y39, Y41, Y43, Y132, Y134, Y148, VolR.v, VolR.cp, DiskR.cp, RemapR.cp, SpaceR.cp, c1, c2, c3, o1, o2, o3, o4, n1, n2, n3, n4, tk04, tk42, tk64, spl04, spl42, spl64, frz1_cpS]
end Go.Am.R2

/- Volumes: the same as their copies. -/
namespace Go.Am.R2
open Go.Proofs
set_option maxRecDepth 100000
set_option linter.unusedSimpArgs false
set_option linter.unusedVariables false
variable {σ : List O} {p : List Nat}
theorem same_disk (d e : DiskR) (hd : d.ok) (he : e.ok) (h1 : e.ns = d.ns) (h2 : e.ses = d.ses) (h3 : e.nc = d.nc) (h4 : e.ces = d.ces) (h5 : e.fuse = d.fuse) (h6 : e.down = d.down) :
    runF cfg 65 [.agg d.v, .agg e.v] σ p = some (.b true, σ) := by
  obtain ⟨s1, c1, sf, cf, sb, cb⟩ := hd
  obtain ⟨s2, c2, _⟩ := he
  obtain ⟨x1, n, es, y1, m, fs, fu, dn⟩ := d
  obtain ⟨x2, n', es', y2, m', fs', fu', dn'⟩ := e
  simp only at h1 h2 h3 h4 h5 h6 s1 s2 c1 c2 sf cf sb cb
  subst h1 h2 h3 h4 h5 h6
  refine run_done rfl rfl Tryz.func65 rfl ?_
  have o1 := s1.one
  have o2 := s2.one
  have o3 := c1.one
  have o4 := c2.one
  have l1 := fun τ => s1.len (C := cfg) sh31 τ
  have l2 := fun τ => s2.len (C := cfg) sh31 τ
  have l3 := fun τ => c1.len (C := cfg) sh32 τ
  have l4 := fun τ => c2.len (C := cfg) sh32 τ
  simp +contextual (disch := first | omega | exact rfl | decide | exact kpF (by decide) | exact kpT (by decide) | assumption | exact Z2z | exact Z30 | exact Z32 | exact Z31 | exact Z33 | exact Z34 | (simp only [ZI] <;> omega) | simp only [ZK] | (simp only [ZL] <;> assumption)) only [Tryz.f65, ZH, SOp, GOp, ↓Z1c, Int.reduceAdd, Int.reduceSub, Int.reduceMul, Int.reduceNeg, accs, touch, touchM, okPair, Nat.reduceAdd, Nat.reduceLeDiff, Nat.reduceMul, Nat.reduceSub, isV, opA, grdO, grd, Z41, Int.reduceLT, Int.reduceLE, Int.reduceToNat, builtinP, builtinA, changes, fieldAddrA, resA, tupled, ↓reduceIte, Nat.reduceEqDiff, Nat.reduceLT, Z70, Int.reduceEq, dr65x6, dr65x11, Y3, Y4, Y5, Y31, Y32, Y34, Y47, Y132, Y148, bne4, DiskR.v, o1, o2, o3, o4, l1, l2, l3, l4]
  refine Wq.up (fun i s => s.nt = 73 ∧ s.σ = σ ++ [.cells (0 :: p) [x1, y1, .i .i64 fu', .b dn'], .cells (1 :: p) [x2, y2, .i .i64 fu', .b dn']] ∧ s.t.get 2 = some (.ptr σ.length (0 :: p) 0) ∧ s.t.get 3 = some (.ptr (σ.length + 1) (1 :: p) 0) ∧ s.t.get 5 = some (.i .i64 (i : Nat))) n' ?_ ?_
  · refine ⟨rfl, rfl, ?_⟩
    simp +contextual (disch := first | omega | exact rfl | decide | exact kpF (by decide) | exact kpT (by decide) | assumption | exact Z2z | exact Z30 | exact Z32 | exact Z31 | exact Z33 | exact Z34 | (simp only [ZI] <;> omega) | simp only [ZK] | (simp only [ZL] <;> assumption)) only [ZH, SOp, GOp, ↓Z1c, Int.reduceAdd, Int.reduceSub, Int.reduceMul, Int.reduceNeg, accs, touch, touchM, okPair, Nat.reduceAdd, Nat.reduceLeDiff, Nat.reduceMul, Nat.reduceSub, isV, opA, grdO, grd, Z41, Int.reduceLT, Int.reduceLE, Int.reduceToNat, builtinP, builtinA, changes, fieldAddrA, resA, tupled, ↓reduceIte, Nat.reduceEqDiff, Nat.reduceLT, Z70, Int.reduceEq]
  · rintro i ⟨t, nt, σ', c⟩ hi ⟨rfl, rfl, g2, g3, g5⟩
    by_cases hlt : i < n'
    · have hlt' : (i : Int) < (n' : Int) := by omega
      have a1 := s1.at (C := cfg) sh31 sz148 hlt
      have a2 := s2.at (C := cfg) sh31 sz148 hlt
      have ld : ∀ τ, loadA cfg 148 τ (.iptr (es'.drop (i * (129 + 1)))) = some (.agg ((es'.drop (i * 130)).take 130)) := fun τ => by
        rw [load_iagg ag148 sz148, take_el s1.1 hlt]; rfl
      have ne := fun x y => ne148 (x := x) (y := y) (sf i hlt) (sf i hlt)
      have er : eqB ((es'.drop (i * 130)).take 130) ((es'.drop (i * 130)).take 130) = true := eqB_refl (fk_some (sf i hlt))
      simp +contextual (disch := first | omega | exact rfl | decide | exact kpF (by decide) | exact kpT (by decide) | assumption | exact Z2z | exact Z30 | exact Z32 | exact Z31 | exact Z33 | exact Z34 | (simp only [ZI] <;> omega) | simp only [ZK] | (simp only [ZL] <;> assumption)) only [ZH, SOp, GOp, ↓Z1c, Int.reduceAdd, Int.reduceSub, Int.reduceMul, Int.reduceNeg, accs, touch, touchM, okPair, Nat.reduceAdd, Nat.reduceLeDiff, Nat.reduceMul, Nat.reduceSub, isV, opA, grdO, grd, Z41, Int.reduceLT, Int.reduceLE, Int.reduceToNat, builtinP, builtinA, changes, fieldAddrA, resA, tupled, ↓reduceIte, Nat.reduceEqDiff, Nat.reduceLT, Z70, Int.reduceEq, dr65x6, dr65x11, Y3, Y4, Y5, Y31, Y32, Y34, Y47, Y132, Y148, g2, g3, g5, l1, l2, hlt', a1, a2, ld, ne, er]
      exact ⟨hlt, rfl⟩
    · have hi' : i = n' := by omega
      subst hi'
      simp +contextual (disch := first | omega | exact rfl | decide | exact kpF (by decide) | exact kpT (by decide) | assumption | exact Z2z | exact Z30 | exact Z32 | exact Z31 | exact Z33 | exact Z34 | (simp only [ZI] <;> omega) | simp only [ZK] | (simp only [ZL] <;> assumption)) only [ZH, SOp, GOp, ↓Z1c, Int.reduceAdd, Int.reduceSub, Int.reduceMul, Int.reduceNeg, accs, touch, touchM, okPair, Nat.reduceAdd, Nat.reduceLeDiff, Nat.reduceMul, Nat.reduceSub, isV, opA, grdO, grd, Z41, Int.reduceLT, Int.reduceLE, Int.reduceToNat, builtinP, builtinA, changes, fieldAddrA, resA, tupled, ↓reduceIte, Nat.reduceEqDiff, Nat.reduceLT, Z70, Int.reduceEq, dr65x6, dr65x11, Y3, Y4, Y5, Y31, Y32, Y34, Y47, Y132, Y148, g2, g3, g5, l1, l2, Int.lt_irrefl]
      refine Wq.up (fun i s => s.nt = 73 ∧ s.σ = σ ++ [.cells (0 :: p) [x1, y1, .i .i64 fu', .b dn'], .cells (1 :: p) [x2, y2, .i .i64 fu', .b dn']] ∧ s.t.get 2 = some (.ptr σ.length (0 :: p) 0) ∧ s.t.get 3 = some (.ptr (σ.length + 1) (1 :: p) 0) ∧ s.t.get 6 = some (.i .i64 (i : Nat))) m' ?_ ?_
      · refine ⟨rfl, rfl, ?_⟩
        simp +contextual (disch := first | omega | exact rfl | decide | exact kpF (by decide) | exact kpT (by decide) | assumption | exact Z2z | exact Z30 | exact Z32 | exact Z31 | exact Z33 | exact Z34 | (simp only [ZI] <;> omega) | simp only [ZK] | (simp only [ZL] <;> assumption)) only [ZH, SOp, GOp, ↓Z1c, Int.reduceAdd, Int.reduceSub, Int.reduceMul, Int.reduceNeg, accs, touch, touchM, okPair, Nat.reduceAdd, Nat.reduceLeDiff, Nat.reduceMul, Nat.reduceSub, isV, opA, grdO, grd, Z41, Int.reduceLT, Int.reduceLE, Int.reduceToNat, builtinP, builtinA, changes, fieldAddrA, resA, tupled, ↓reduceIte, Nat.reduceEqDiff, Nat.reduceLT, Z70, Int.reduceEq, g2, g3]
      · rintro i ⟨t, nt, σ', c⟩ hi ⟨rfl, rfl, g2, g3, g6⟩
        by_cases hlt : i < m'
        · have hlt' : (i : Int) < (m' : Int) := by omega
          have a1 := c1.at (C := cfg) sh32 sz132 hlt
          have a2 := c2.at (C := cfg) sh32 sz132 hlt
          have ld : ∀ τ, loadA cfg 132 τ (.iptr (fs'.drop (i * (128 + 1)))) = some (.agg ((fs'.drop (i * 129)).take 129)) := fun τ => by
            rw [load_iagg ag132 sz132, take_el c1.1 hlt]; rfl
          have ne := fun x y => ne132 (x := x) (y := y) (cf i hlt) (cf i hlt)
          have er : eqB ((fs'.drop (i * 129)).take 129) ((fs'.drop (i * 129)).take 129) = true := eqB_refl (fk_some (cf i hlt))
          simp +contextual (disch := first | omega | exact rfl | decide | exact kpF (by decide) | exact kpT (by decide) | assumption | exact Z2z | exact Z30 | exact Z32 | exact Z31 | exact Z33 | exact Z34 | (simp only [ZI] <;> omega) | simp only [ZK] | (simp only [ZL] <;> assumption)) only [ZH, SOp, GOp, ↓Z1c, Int.reduceAdd, Int.reduceSub, Int.reduceMul, Int.reduceNeg, accs, touch, touchM, okPair, Nat.reduceAdd, Nat.reduceLeDiff, Nat.reduceMul, Nat.reduceSub, isV, opA, grdO, grd, Z41, Int.reduceLT, Int.reduceLE, Int.reduceToNat, builtinP, builtinA, changes, fieldAddrA, resA, tupled, ↓reduceIte, Nat.reduceEqDiff, Nat.reduceLT, Z70, Int.reduceEq, dr65x6, dr65x11, Y3, Y4, Y5, Y31, Y32, Y34, Y47, Y132, Y148, g2, g3, g6, l3, l4, hlt', a1, a2, ld, ne, er]
          exact ⟨hlt, rfl⟩
        · have hi' : i = m' := by omega
          subst hi'
          simp +contextual (disch := first | omega | exact rfl | decide | exact kpF (by decide) | exact kpT (by decide) | assumption | exact Z2z | exact Z30 | exact Z32 | exact Z31 | exact Z33 | exact Z34 | (simp only [ZI] <;> omega) | simp only [ZK] | (simp only [ZL] <;> assumption)) only [ZH, SOp, GOp, ↓Z1c, Int.reduceAdd, Int.reduceSub, Int.reduceMul, Int.reduceNeg, accs, touch, touchM, okPair, Nat.reduceAdd, Nat.reduceLeDiff, Nat.reduceMul, Nat.reduceSub, isV, opA, grdO, grd, Z41, Int.reduceLT, Int.reduceLE, Int.reduceToNat, builtinP, builtinA, changes, fieldAddrA, resA, tupled, ↓reduceIte, Nat.reduceEqDiff, Nat.reduceLT, Z70, Int.reduceEq, dr65x6, dr65x11, Y3, Y4, Y5, Y31, Y32, Y34, Y47, Y132, Y148, g2, g3, g6, l3, l4, Int.lt_irrefl]
theorem same_remap (d e : RemapR) (hd : d.ok) (he : e.ok) (h1 : e.gen = d.gen) (h2 : e.pl = d.pl) : runF cfg 66 [.agg d.v, .agg e.v] σ p = some (.b true, σ) := by
  obtain ⟨s1, b⟩ := hd
  obtain ⟨s2, _⟩ := he
  obtain ⟨ge, x1, l⟩ := d
  obtain ⟨ge', x2, l'⟩ := e
  simp only at h1 h2 s1 s2 b
  subst h1 h2
  refine run_done rfl rfl Tryz.func66 rfl ?_
  have o1 := s1.one
  have o2 := s2.one
  have l1 := fun τ => s1.len (C := cfg) sh35 τ
  have l2 := fun τ => s2.len (C := cfg) sh35 τ
  simp +contextual (disch := first | omega | exact rfl | decide | exact kpF (by decide) | exact kpT (by decide) | assumption | exact Z2z | exact Z30 | exact Z32 | exact Z31 | exact Z33 | exact Z34 | (simp only [ZI] <;> omega) | simp only [ZK] | (simp only [ZL] <;> assumption)) only [Tryz.f66, ZH, SOp, GOp, ↓Z1c, Int.reduceAdd, Int.reduceSub, Int.reduceMul, Int.reduceNeg, accs, touch, touchM, okPair, Nat.reduceAdd, Nat.reduceLeDiff, Nat.reduceMul, Nat.reduceSub, isV, opA, grdO, grd, Z41, Int.reduceLT, Int.reduceLE, Int.reduceToNat, builtinP, builtinA, changes, fieldAddrA, resA, tupled, ↓reduceIte, Nat.reduceEqDiff, Nat.reduceLT, Z70, Int.reduceEq, dr66x6, Y3, Y35, Y37, Y134, RemapR.v, o1, o2, l1, l2]
  refine Wq.up (fun i s => s.nt = 38 ∧ s.σ = σ ++ [.cells (0 :: p) [.i .i64 ge', x1], .cells (1 :: p) [.i .i64 ge', x2]] ∧ s.t.get 2 = some (.ptr σ.length (0 :: p) 0) ∧ s.t.get 3 = some (.ptr (σ.length + 1) (1 :: p) 0) ∧ s.t.get 5 = some (.i .i64 (i : Nat))) l'.length ?_ ?_
  · refine ⟨rfl, rfl, ?_⟩
    simp +contextual (disch := first | omega | exact rfl | decide | exact kpF (by decide) | exact kpT (by decide) | assumption | exact Z2z | exact Z30 | exact Z32 | exact Z31 | exact Z33 | exact Z34 | (simp only [ZI] <;> omega) | simp only [ZK] | (simp only [ZL] <;> assumption)) only [ZH, SOp, GOp, ↓Z1c, Int.reduceAdd, Int.reduceSub, Int.reduceMul, Int.reduceNeg, accs, touch, touchM, okPair, Nat.reduceAdd, Nat.reduceLeDiff, Nat.reduceMul, Nat.reduceSub, isV, opA, grdO, grd, Z41, Int.reduceLT, Int.reduceLE, Int.reduceToNat, builtinP, builtinA, changes, fieldAddrA, resA, tupled, ↓reduceIte, Nat.reduceEqDiff, Nat.reduceLT, Z70, Int.reduceEq]
  · rintro i ⟨t, nt, σ', c⟩ hi ⟨rfl, rfl, g2, g3, g5⟩
    by_cases hlt : i < l'.length
    · have hlt' : (i : Int) < (l'.length : Int) := by omega
      have a1 := s1.at (C := cfg) sh35 sz134 hlt
      have a2 := s2.at (C := cfg) sh35 sz134 hlt
      have ld : ∀ τ, loadA cfg 134 τ (.iptr ((prV l').drop (i * (1 + 1)))) = some (.agg [.i .i64 l'[i].1, .i .i64 l'[i].2]) := fun τ => by
        rw [load_iagg ag134 sz134, prV_drop l' i hlt]; rfl
      simp +contextual (disch := first | omega | exact rfl | decide | exact kpF (by decide) | exact kpT (by decide) | assumption | exact Z2z | exact Z30 | exact Z32 | exact Z31 | exact Z33 | exact Z34 | (simp only [ZI] <;> omega) | simp only [ZK] | (simp only [ZL] <;> assumption)) only [ZH, SOp, GOp, ↓Z1c, Int.reduceAdd, Int.reduceSub, Int.reduceMul, Int.reduceNeg, accs, touch, touchM, okPair, Nat.reduceAdd, Nat.reduceLeDiff, Nat.reduceMul, Nat.reduceSub, isV, opA, grdO, grd, Z41, Int.reduceLT, Int.reduceLE, Int.reduceToNat, builtinP, builtinA, changes, fieldAddrA, resA, tupled, ↓reduceIte, Nat.reduceEqDiff, Nat.reduceLT, Z70, Int.reduceEq, dr66x6, Y3, Y35, Y37, Y134, g2, g3, g5, l1, l2, hlt', a1, a2, ld]
      exact ⟨hlt, rfl⟩
    · have hi' : i = l'.length := by omega
      subst hi'
      simp +contextual (disch := first | omega | exact rfl | decide | exact kpF (by decide) | exact kpT (by decide) | assumption | exact Z2z | exact Z30 | exact Z32 | exact Z31 | exact Z33 | exact Z34 | (simp only [ZI] <;> omega) | simp only [ZK] | (simp only [ZL] <;> assumption)) only [ZH, SOp, GOp, ↓Z1c, Int.reduceAdd, Int.reduceSub, Int.reduceMul, Int.reduceNeg, accs, touch, touchM, okPair, Nat.reduceAdd, Nat.reduceLeDiff, Nat.reduceMul, Nat.reduceSub, isV, opA, grdO, grd, Z41, Int.reduceLT, Int.reduceLE, Int.reduceToNat, builtinP, builtinA, changes, fieldAddrA, resA, tupled, ↓reduceIte, Nat.reduceEqDiff, Nat.reduceLT, Z70, Int.reduceEq, dr66x6, Y3, Y35, Y37, Y134, g2, g3, g5, l1, l2, Int.lt_irrefl]
theorem tk402 {a0 a1 a2 a3 : V} : take? [a0, a1, a2, a3] 0 2 = some [a0, a1] := rfl
theorem same_space (d e : SpaceR) (hd : d.ok) (he : e.ok) (h1 : e.at0 = d.at0) (h2 : e.at1 = d.at1) (h3 : e.size = d.size) (h4 : e.sl = d.sl) : runF cfg 67 [.agg d.v, .agg e.v] σ p = some (.b true, σ) := by
  have v1 := hd.sv.view
  have v2 := he.sv.view
  have o1 := hd.sv.one
  have o2 := he.sv.one
  rw [h4] at v2
  have hs := fun (τ : List O) q => samev_ok (σ := τ) (p := q) d.sl (v1 τ) (v2 τ)
  refine run_done rfl rfl Tryz.func67 rfl ?_
  have e48 : ∀ x y, binA cfg .eql 38 x y (.agg [.i .i64 d.at0, .i .i64 d.at1]) (.agg [.i .i64 d.at0, .i .i64 d.at1]) = some (.b true) := fun x y => by
    rw [eq38 (by simp [fk_i]) (by simp [fk_i])]; simp [eqB_cons, eqB_nil, scB_i]
  simp +contextual (disch := first | omega | exact rfl | decide | exact kpF (by decide) | exact kpT (by decide) | assumption | exact Z2z | exact Z30 | exact Z32 | exact Z31 | exact Z33 | exact Z34 | (simp only [ZI] <;> omega) | simp only [ZK] | (simp only [ZL] <;> assumption)) only [Tryz.f67, ZH, SOp, GOp, ↓Z1c, Int.reduceAdd, Int.reduceSub, Int.reduceMul, Int.reduceNeg, accs, touch, touchM, okPair, Nat.reduceAdd, Nat.reduceLeDiff, Nat.reduceMul, Nat.reduceSub, isV, opA, grdO, grd, Z41, Int.reduceLT, Int.reduceLE, Int.reduceToNat, builtinP, builtinA, changes, fieldAddrA, resA, tupled, ↓reduceIte, Nat.reduceEqDiff, Nat.reduceLT, Z70, Int.reduceEq, Y3, Y5, Y38, Y39, Y41, SpaceR.v, o1, o2, h1, h2, h3, hs, e48, tk402]
theorem same_vol (v w : VolR) (hv : v.ok) (hw : w.ok) (hd : w.cp = v.cp) : runF cfg 23 [.agg v.v, .agg w.v] σ p = some (.b true, σ) := by
  have q1 : w.d.cp = v.d.cp := congrArg VolR.d hd
  have q2 : w.m.cp = v.m.cp := congrArg VolR.m hd
  have q3 : w.s.cp = v.s.cp := congrArg VolR.s hd
  have c1 := fun (τ : List O) q => same_disk (σ := τ) (p := q) v.d w.d hv.d hw.d (by have := congrArg DiskR.ns q1; exact this) (by have := congrArg DiskR.ses q1; exact this) (by have := congrArg DiskR.nc q1; exact this) (by have := congrArg DiskR.ces q1; exact this) (by have := congrArg DiskR.fuse q1; exact this) (by have := congrArg DiskR.down q1; exact this)
  have c2 := fun (τ : List O) q => same_remap (σ := τ) (p := q) v.m w.m hv.m hw.m (by have := congrArg RemapR.gen q2; exact this) (by have := congrArg RemapR.pl q2; exact this)
  have c3 := fun (τ : List O) q => same_space (σ := τ) (p := q) v.s w.s hv.s hw.s (by have := congrArg SpaceR.at0 q3; exact this) (by have := congrArg SpaceR.at1 q3; exact this) (by have := congrArg SpaceR.size q3; exact this) (by have := congrArg SpaceR.sl q3; exact this)
  refine run_done rfl rfl Tryz.func23 rfl ?_
  have o1 := hv.d.s.one
  have o2 := hv.d.c.one
  have o3 := hv.m.s.one
  have o4 := hv.s.sv.one
  have n1 := hw.d.s.one
  have n2 := hw.d.c.one
  have n3 := hw.m.s.one
  have n4 := hw.s.sv.one
  simp only [DiskR.v, RemapR.v, SpaceR.v] at c1 c2 c3
  simp +contextual (disch := first | omega | exact rfl | decide | exact kpF (by decide) | exact kpT (by decide) | assumption | exact Z2z | exact Z30 | exact Z32 | exact Z31 | exact Z33 | exact Z34 | (simp only [ZI] <;> omega) | simp only [ZK] | (simp only [ZL] <;> assumption)) only [Tryz.f23, ZH, SOp, GOp, ↓Z1c, Int.reduceAdd, Int.reduceSub, Int.reduceMul, Int.reduceNeg, accs, touch, touchM, okPair, Nat.reduceAdd, Nat.reduceLeDiff, Nat.reduceMul, Nat.reduceSub, isV, opA, grdO, grd, Z41, Int.reduceLT, Int.reduceLE, Int.reduceToNat, builtinP, builtinA, changes, fieldAddrA, resA, tupled, ↓reduceIte, Nat.reduceEqDiff, Nat.reduceLT, Z70, Int.reduceEq, Y3, Y4, Y5, Y31, Y32, Y34, Y35, Y37, Y38, Y39, Y41, Y43, Y132, Y134, Y148, VolR.v, c1, c2, c3, o1, o2, o3, o4, n1, n2, n3, n4, tk04, tk42, tk64]
end Go.Am.R2

/- Volumes: is a disk right. -/
namespace Go.Am.R2
open Go.Proofs
set_option maxRecDepth 100000
set_option linter.unusedSimpArgs false
set_option linter.unusedVariables false
variable {σ : List O} {p : List Nat}
/-- Where a write goes. -/
def wAt (els : List V) (i : Nat) : Int := match els[i * 129]? with | some (.i _ n) => n | _ => 0
theorem wAt_eq {els : List V} {i : Nat} (h : ((els.drop (i * 129)).take 129).map V.fk = ([(.i .i64)] ++ List.replicate 128 (.i .u8) : List Fk).map some) : els[i * 129]? = some (.i .i64 (wAt els i)) := by
  have := congrArg (fun l => l[0]?) h
  simp only [List.getElem?_map, List.getElem?_take, List.getElem?_drop, Nat.add_zero, show (0 : Nat) < 129 from by decide, if_true] at this
  unfold wAt
  cases hc : els[i * 129]? with
  | none => rw [hc] at this; simp at this
  | some v =>
    rw [hc] at this
    simp at this
    cases v <;> simp [V.fk] at this
    subst this; rfl
def badW (els : List V) (ns : Nat) (i : Nat) : Bool := decide (wAt els i < 0) || decide ((ns : Int) ≤ wAt els i)
def formedB (d : DiskR) : Bool := decide (0 < d.ns) && decide (d.ns ≤ 4096) && (List.range d.nc).all fun i => !badW d.ces d.ns i
theorem bad_ok {us : List V} {w : Int} {ns : Nat} {r : Nat} {st : List Nat} (hl : us.length = 129) (ho : us.all V.one = true) (hw : us[0]? = some (.i .i64 w)) (hr : rowAt σ r st = some [.i .i64 ns]) :
    runF cfg 164 [.agg us, .ptr r st 0] σ p = some (.b (decide (w < 0) || decide ((ns : Int) ≤ w)), σ) := by
  refine run_done rfl rfl Tryz.func164 rfl ?_
  have hr' : ∀ L, rowAt (σ ++ L) r st = some [.i .i64 ns] := fun L => rowAt_old hr
  simp +contextual (disch := first | omega | exact rfl | decide | exact kpF (by decide) | exact kpT (by decide) | assumption | exact Z2z | exact Z30 | exact Z32 | exact Z31 | exact Z33 | exact Z34 | (simp only [ZI] <;> omega) | simp only [ZK] | (simp only [ZL] <;> assumption)) only [Tryz.f164, ZH, SOp, GOp, ↓Z1c, Int.reduceAdd, Int.reduceSub, Int.reduceMul, Int.reduceNeg, accs, touch, touchM, okPair, Nat.reduceAdd, Nat.reduceLeDiff, Nat.reduceMul, Nat.reduceSub, isV, opA, grdO, grd, Z41, Int.reduceLT, Int.reduceLE, Int.reduceToNat, builtinP, builtinA, changes, fieldAddrA, resA, tupled, ↓reduceIte, Nat.reduceEqDiff, Nat.reduceLT, Z70, Int.reduceEq, Y3, Y5, Y47, Y132, ho, hw, hr']
theorem index_ok (d : DiskR) (h : d.ok) {r : Nat} {st : List Nat} (hr : rowAt σ r st = some [.i .i64 d.ns]) :
    ∃ k : Int, runF cfg 183 [d.cac, .fn 164 [] [.ptr r st 0]] σ p = some (.i .i64 k, σ) ∧ (decide (0 ≤ k) = !(List.range d.nc).all fun i => !badW d.ces d.ns i) ∧ -1 ≤ k ∧ k ≤ 140737488355328 := by
  suffices hs : ∃ res, runF cfg 183 [d.cac, .fn 164 [] [.ptr r st 0]] σ p = some res ∧ ∃ k : Int, res = (.i .i64 k, σ) ∧ (decide (0 ≤ k) = !(List.range d.nc).all fun i => !badW d.ces d.ns i) ∧ -1 ≤ k ∧ k ≤ 140737488355328 by
    obtain ⟨res, h1, k, rfl, h2⟩ := hs
    exact ⟨k, h1, h2⟩
  refine run_doneP rfl rfl Tryz.func183 rfl ?_
  have hb := h.cb
  have l3 := fun τ => h.c.len (C := cfg) sh32 τ
  simp +contextual (disch := first | omega | exact rfl | decide | exact kpF (by decide) | exact kpT (by decide) | assumption | exact Z2z | exact Z30 | exact Z32 | exact Z31 | exact Z33 | exact Z34 | (simp only [ZI] <;> omega) | simp only [ZK] | (simp only [ZL] <;> assumption)) only [Tryz.f183, ZH, SOp, GOp, ↓Z1c, Int.reduceAdd, Int.reduceSub, Int.reduceMul, Int.reduceNeg, accs, touch, touchM, okPair, Nat.reduceAdd, Nat.reduceLeDiff, Nat.reduceMul, Nat.reduceSub, isV, opA, grdO, grd, Z41, Int.reduceLT, Int.reduceLE, Int.reduceToNat, builtinP, builtinA, changes, fieldAddrA, resA, tupled, ↓reduceIte, Nat.reduceEqDiff, Nat.reduceLT, Z70, Int.reduceEq, Y3, Y5, Y32, Y47, Y132, l3]
  refine Wq.up (fun i s => s.nt = 19 ∧ s.σ = σ ∧ s.t.get 0 = some d.cac ∧ s.t.get 1 = some (.fn 164 [] [.ptr r st 0]) ∧ s.t.get 7 = some (.i .i64 d.nc) ∧ s.t.get 8 = some (.i .i64 (i : Nat)) ∧ ∀ j, j < i → badW d.ces d.ns j = false) d.nc ?_ ?_
  · refine ⟨rfl, rfl, ?_⟩
    simp +contextual (disch := first | omega | exact rfl | decide | exact kpF (by decide) | exact kpT (by decide) | assumption | exact Z2z | exact Z30 | exact Z32 | exact Z31 | exact Z33 | exact Z34 | (simp only [ZI] <;> omega) | simp only [ZK] | (simp only [ZL] <;> assumption)) only [ZH, SOp, GOp, ↓Z1c, Int.reduceAdd, Int.reduceSub, Int.reduceMul, Int.reduceNeg, accs, touch, touchM, okPair, Nat.reduceAdd, Nat.reduceLeDiff, Nat.reduceMul, Nat.reduceSub, isV, opA, grdO, grd, Z41, Int.reduceLT, Int.reduceLE, Int.reduceToNat, builtinP, builtinA, changes, fieldAddrA, resA, tupled, ↓reduceIte, Nat.reduceEqDiff, Nat.reduceLT, Z70, Int.reduceEq]
    exact fun j hj => absurd hj (by omega)
  · rintro i ⟨t, nt, σ', c⟩ hi ⟨rfl, rfl, g0, g1, g7, g8, hno⟩
    by_cases hlt : i < d.nc
    · have hlt' : (i : Int) < (d.nc : Int) := by omega
      have a1 := h.c.at (C := cfg) sh32 sz132 hlt
      have ld : ∀ τ, loadA cfg 132 τ (.iptr (d.ces.drop (i * (128 + 1)))) = some (.agg ((d.ces.drop (i * 129)).take 129)) := fun τ => by
        rw [load_iagg ag132 sz132, take_el h.c.1 hlt]; rfl
      have hf := h.cf i hlt
      have hw := wAt_eq hf
      have hbad := fun q => bad_ok (σ := σ') (p := q) (us := (d.ces.drop (i * 129)).take 129) (w := wAt d.ces i) (ns := d.ns) (by have := fk_len hf; simpa using this) (all_one_fk (fk_some hf)) (by simp [List.getElem?_take, List.getElem?_drop, hw]) hr
      have hbw : (decide (wAt d.ces i < 0) || decide ((d.ns : Int) ≤ wAt d.ces i)) = badW d.ces d.ns i := rfl
      rw [hbw] at hbad
      cases hbb : badW d.ces d.ns i with
      | true =>
        rw [hbb] at hbad
        simp +contextual (disch := first | omega | exact rfl | decide | exact kpF (by decide) | exact kpT (by decide) | assumption | exact Z2z | exact Z30 | exact Z32 | exact Z31 | exact Z33 | exact Z34 | (simp only [ZI] <;> omega) | simp only [ZK] | (simp only [ZL] <;> assumption)) only [ZH, SOp, GOp, ↓Z1c, Int.reduceAdd, Int.reduceSub, Int.reduceMul, Int.reduceNeg, accs, touch, touchM, okPair, Nat.reduceAdd, Nat.reduceLeDiff, Nat.reduceMul, Nat.reduceSub, isV, opA, grdO, grd, Z41, Int.reduceLT, Int.reduceLE, Int.reduceToNat, builtinP, builtinA, changes, fieldAddrA, resA, tupled, ↓reduceIte, Nat.reduceEqDiff, Nat.reduceLT, Z70, Int.reduceEq, Y3, Y5, Y32, Y47, Y132, g0, g1, g7, g8, hlt', a1, ld, SCall_fnC, hbad, DoneP_ret]
        refine ⟨(i : Int), rfl, ?_, by omega, by omega⟩
        rw [decide_eq_true (by omega)]
        symm
        rw [Bool.not_eq_true', List.all_eq_false]
        exact ⟨i, List.mem_range.2 hlt, by rw [hbb]; decide⟩
      | false =>
        rw [hbb] at hbad
        simp +contextual (disch := first | omega | exact rfl | decide | exact kpF (by decide) | exact kpT (by decide) | assumption | exact Z2z | exact Z30 | exact Z32 | exact Z31 | exact Z33 | exact Z34 | (simp only [ZI] <;> omega) | simp only [ZK] | (simp only [ZL] <;> assumption)) only [ZH, SOp, GOp, ↓Z1c, Int.reduceAdd, Int.reduceSub, Int.reduceMul, Int.reduceNeg, accs, touch, touchM, okPair, Nat.reduceAdd, Nat.reduceLeDiff, Nat.reduceMul, Nat.reduceSub, isV, opA, grdO, grd, Z41, Int.reduceLT, Int.reduceLE, Int.reduceToNat, builtinP, builtinA, changes, fieldAddrA, resA, tupled, ↓reduceIte, Nat.reduceEqDiff, Nat.reduceLT, Z70, Int.reduceEq, Y3, Y5, Y32, Y47, Y132, g0, g1, g7, g8, hlt', a1, ld, SCall_fnC, hbad]
        refine ⟨hlt, rfl, fun j hj => ?_⟩
        by_cases he : j = i
        · subst he; exact hbb
        · exact hno j (by omega)
    · have hi' : i = d.nc := by omega
      subst hi'
      simp +contextual (disch := first | omega | exact rfl | decide | exact kpF (by decide) | exact kpT (by decide) | assumption | exact Z2z | exact Z30 | exact Z32 | exact Z31 | exact Z33 | exact Z34 | (simp only [ZI] <;> omega) | simp only [ZK] | (simp only [ZL] <;> assumption)) only [ZH, SOp, GOp, ↓Z1c, Int.reduceAdd, Int.reduceSub, Int.reduceMul, Int.reduceNeg, accs, touch, touchM, okPair, Nat.reduceAdd, Nat.reduceLeDiff, Nat.reduceMul, Nat.reduceSub, isV, opA, grdO, grd, Z41, Int.reduceLT, Int.reduceLE, Int.reduceToNat, builtinP, builtinA, changes, fieldAddrA, resA, tupled, ↓reduceIte, Nat.reduceEqDiff, Nat.reduceLT, Z70, Int.reduceEq, Y3, Y5, Y32, Y47, Y132, g0, g1, g7, g8, Int.lt_irrefl, DoneP_ret, DoneP_normal]
      refine ⟨-1, rfl, ?_, by omega, by omega⟩
      rw [decide_eq_false (by omega)]
      symm
      rw [Bool.not_eq_false', List.all_eq_true]
      intro j hj
      rw [hno j (List.mem_range.1 hj)]; rfl
theorem formed_ok (d : DiskR) (h : d.ok) : runF cfg 135 [.agg d.v] σ p = some (.b (formedB d), σ) := by
  refine run_done rfl rfl Tryz.func135 rfl ?_
  have o1 := h.s.one
  have o2 := h.c.one
  have l1 := fun τ => h.s.len (C := cfg) sh31 τ
  have hc : ∀ (τ : List O) r st q, rowAt τ r st = some [.i .i64 d.ns] → runF cfg 163 [d.cac, .fn 164 [] [.ptr r st 0]] τ q = some (.b (!(List.range d.nc).all fun i => !badW d.ces d.ns i), τ) := by
    intro τ r st q hr
    refine run_done rfl rfl Tryz.func163 rfl ?_
    obtain ⟨k, hk, hk2, _⟩ := index_ok (σ := τ) (p := 0 :: q) d h hr
    simp +contextual (disch := first | omega | exact rfl | decide | exact kpF (by decide) | exact kpT (by decide) | assumption | exact Z2z | exact Z30 | exact Z32 | exact Z31 | exact Z33 | exact Z34 | (simp only [ZI] <;> omega) | simp only [ZK] | (simp only [ZL] <;> assumption)) only [Tryz.f163, ZH, SOp, GOp, ↓Z1c, Int.reduceAdd, Int.reduceSub, Int.reduceMul, Int.reduceNeg, accs, touch, touchM, okPair, Nat.reduceAdd, Nat.reduceLeDiff, Nat.reduceMul, Nat.reduceSub, isV, opA, grdO, grd, Z41, Int.reduceLT, Int.reduceLE, Int.reduceToNat, builtinP, builtinA, changes, fieldAddrA, resA, tupled, ↓reduceIte, Nat.reduceEqDiff, Nat.reduceLT, Z70, Int.reduceEq, Y3, hk, hk2]
  have hc2 : ∀ A st q, runF cfg 163 [d.cac, .fn 164 [] [.ptr (σ.length + 1) st 0]] (σ ++ [A, .cells st [.i .i64 d.ns]]) q = _ := fun A st q => hc (σ ++ [A, .cells st [.i .i64 d.ns]]) (σ.length + 1) st q (by rw [rowAt_app]; simp [rowAt])
  simp +contextual (disch := first | omega | exact rfl | decide | exact kpF (by decide) | exact kpT (by decide) | assumption | exact Z2z | exact Z30 | exact Z32 | exact Z31 | exact Z33 | exact Z34 | (simp only [ZI] <;> omega) | simp only [ZK] | (simp only [ZL] <;> assumption)) only [Tryz.f135, ZH, SOp, GOp, ↓Z1c, Int.reduceAdd, Int.reduceSub, Int.reduceMul, Int.reduceNeg, accs, touch, touchM, okPair, Nat.reduceAdd, Nat.reduceLeDiff, Nat.reduceMul, Nat.reduceSub, isV, opA, grdO, grd, Z41, Int.reduceLT, Int.reduceLE, Int.reduceToNat, builtinP, builtinA, changes, fieldAddrA, resA, tupled, ↓reduceIte, Nat.reduceEqDiff, Nat.reduceLT, Z70, Int.reduceEq, Y3, Y4, Y31, Y32, Y34, Y47, Y132, Y148, DiskR.v, o1, o2, l1, hc2]
  refine congrArg (fun b => (V.b b, σ)) ?_
  rw [Bool.not_not, formedB, decide_eq_decide.2 (show (0 : Int) < d.ns ↔ 0 < d.ns by omega), decide_eq_decide.2 (show (d.ns : Int) ≤ 4096 ↔ d.ns ≤ 4096 by omega)]
end Go.Am.R2

/- Volumes: is a disk right, by the document; is the space's table formed. -/
namespace Go.Am.R2
open Go.Proofs
set_option maxRecDepth 100000
set_option linter.unusedSimpArgs false
set_option linter.unusedVariables false
variable {σ : List O} {p : List Nat}
theorem there_ok (d : DiskR) (h : d.ok) (w : Int) : runF cfg 91 [.agg d.v, .i .i64 w] σ p = some (.b (decide (0 ≤ w) && decide (w < d.ns)), σ) := by
  refine run_done rfl rfl Tryz.func91 rfl ?_
  have o1 := h.s.one
  have o2 := h.c.one
  have l1 := fun τ => h.s.len (C := cfg) sh31 τ
  simp +contextual (disch := first | omega | exact rfl | decide | exact kpF (by decide) | exact kpT (by decide) | assumption | exact Z2z | exact Z30 | exact Z32 | exact Z31 | exact Z33 | exact Z34 | (simp only [ZI] <;> omega) | simp only [ZK] | (simp only [ZL] <;> assumption)) only [Tryz.f91, ZH, SOp, GOp, ↓Z1c, Int.reduceAdd, Int.reduceSub, Int.reduceMul, Int.reduceNeg, accs, touch, touchM, okPair, Nat.reduceAdd, Nat.reduceLeDiff, Nat.reduceMul, Nat.reduceSub, isV, opA, grdO, grd, Z41, Int.reduceLT, Int.reduceLE, Int.reduceToNat, builtinP, builtinA, changes, fieldAddrA, resA, tupled, ↓reduceIte, Nat.reduceEqDiff, Nat.reduceLT, Z70, Int.reduceEq, Y3, Y4, Y31, Y32, Y34, Y47, Y132, Y148, DiskR.v, o1, o2, l1]
theorem formed3_ok (d : DiskR) (h : d.ok) : runF cfg 43 [.agg d.v] σ p = some (.b (formedB d), σ) := by
  refine run_done rfl rfl Tryz.func43 rfl ?_
  have hb := h.cb
  have o1 := h.s.one
  have o2 := h.c.one
  have l1 := fun τ => h.s.len (C := cfg) sh31 τ
  have l3 := fun τ => h.c.len (C := cfg) sh32 τ
  have th := fun (τ : List O) q w => there_ok (σ := τ) (p := q) d h w
  simp only [DiskR.v] at th
  simp +contextual (disch := first | omega | exact rfl | decide | exact kpF (by decide) | exact kpT (by decide) | assumption | exact Z2z | exact Z30 | exact Z32 | exact Z31 | exact Z33 | exact Z34 | (simp only [ZI] <;> omega) | simp only [ZK] | (simp only [ZL] <;> assumption)) only [Tryz.f43, ZH, SOp, GOp, ↓Z1c, Int.reduceAdd, Int.reduceSub, Int.reduceMul, Int.reduceNeg, accs, touch, touchM, okPair, Nat.reduceAdd, Nat.reduceLeDiff, Nat.reduceMul, Nat.reduceSub, isV, opA, grdO, grd, Z41, Int.reduceLT, Int.reduceLE, Int.reduceToNat, builtinP, builtinA, changes, fieldAddrA, resA, tupled, ↓reduceIte, Nat.reduceEqDiff, Nat.reduceLT, Z70, Int.reduceEq, dr43x4, Y3, Y4, Y5, Y31, Y32, Y34, Y47, Y132, Y148, DiskR.v, o1, o2]
  refine Wq.up (fun i s => s.nt = 30 ∧ s.σ = σ ++ [.cells (0 :: p) d.v] ∧ s.t.get 1 = some (.ptr σ.length (0 :: p) 0) ∧ s.t.get 3 = some (.i .i64 (i : Nat)) ∧ ∀ j, j < i → badW d.ces d.ns j = false) d.nc ?_ ?_
  · refine ⟨rfl, rfl, ?_⟩
    simp +contextual (disch := first | omega | exact rfl | decide | exact kpF (by decide) | exact kpT (by decide) | assumption | exact Z2z | exact Z30 | exact Z32 | exact Z31 | exact Z33 | exact Z34 | (simp only [ZI] <;> omega) | simp only [ZK] | (simp only [ZL] <;> assumption)) only [ZH, SOp, GOp, ↓Z1c, Int.reduceAdd, Int.reduceSub, Int.reduceMul, Int.reduceNeg, accs, touch, touchM, okPair, Nat.reduceAdd, Nat.reduceLeDiff, Nat.reduceMul, Nat.reduceSub, isV, opA, grdO, grd, Z41, Int.reduceLT, Int.reduceLE, Int.reduceToNat, builtinP, builtinA, changes, fieldAddrA, resA, tupled, ↓reduceIte, Nat.reduceEqDiff, Nat.reduceLT, Z70, Int.reduceEq]
    exact fun j hj => absurd hj (by omega)
  · rintro i ⟨t, nt, σ', c⟩ hi ⟨rfl, rfl, g1, g3, hno⟩
    simp only [DiskR.v] at g1 g3 ⊢
    by_cases hlt : i < d.nc
    · have hlt' : (i : Int) < (d.nc : Int) := by omega
      have a1 := h.c.at (C := cfg) sh32 sz132 hlt
      have ld := wAt_eq (h.cf i hlt)
      have hbw : (decide (0 ≤ wAt d.ces i) && decide (wAt d.ces i < d.ns)) = !badW d.ces d.ns i := by
        unfold badW
        rw [Bool.eq_iff_iff]
        simp
      cases hbb : badW d.ces d.ns i with
      | true =>
        rw [hbb] at hbw
        have hf : formedB d = false := by
          unfold formedB
          rw [Bool.and_eq_false_iff]
          right
          rw [List.all_eq_false]
          exact ⟨i, List.mem_range.2 hlt, by rw [hbb]; decide⟩
        simp +contextual (disch := first | omega | exact rfl | decide | exact kpF (by decide) | exact kpT (by decide) | assumption | exact Z2z | exact Z30 | exact Z32 | exact Z31 | exact Z33 | exact Z34 | (simp only [ZI] <;> omega) | simp only [ZK] | (simp only [ZL] <;> assumption)) only [ZH, SOp, GOp, ↓Z1c, Int.reduceAdd, Int.reduceSub, Int.reduceMul, Int.reduceNeg, accs, touch, touchM, okPair, Nat.reduceAdd, Nat.reduceLeDiff, Nat.reduceMul, Nat.reduceSub, isV, opA, grdO, grd, Z41, Int.reduceLT, Int.reduceLE, Int.reduceToNat, builtinP, builtinA, changes, fieldAddrA, resA, tupled, ↓reduceIte, Nat.reduceEqDiff, Nat.reduceLT, Z70, Int.reduceEq, dr43x4, Y3, Y4, Y5, Y31, Y32, Y34, Y47, Y132, Y148, g1, g3, l3, hlt', a1, ld, th, hbw, Nat.zero_le, hf]
      | false =>
        rw [hbb] at hbw
        simp +contextual (disch := first | omega | exact rfl | decide | exact kpF (by decide) | exact kpT (by decide) | assumption | exact Z2z | exact Z30 | exact Z32 | exact Z31 | exact Z33 | exact Z34 | (simp only [ZI] <;> omega) | simp only [ZK] | (simp only [ZL] <;> assumption)) only [ZH, SOp, GOp, ↓Z1c, Int.reduceAdd, Int.reduceSub, Int.reduceMul, Int.reduceNeg, accs, touch, touchM, okPair, Nat.reduceAdd, Nat.reduceLeDiff, Nat.reduceMul, Nat.reduceSub, isV, opA, grdO, grd, Z41, Int.reduceLT, Int.reduceLE, Int.reduceToNat, builtinP, builtinA, changes, fieldAddrA, resA, tupled, ↓reduceIte, Nat.reduceEqDiff, Nat.reduceLT, Z70, Int.reduceEq, dr43x4, Y3, Y4, Y5, Y31, Y32, Y34, Y47, Y132, Y148, g1, g3, l3, hlt', a1, ld, th, hbw, Nat.zero_le]
        refine ⟨hlt, rfl, fun j hj => ?_⟩
        by_cases he : j = i
        · subst he; exact hbb
        · exact hno j (by omega)
    · have hi' : i = d.nc := by omega
      subst hi'
      have hall : ((List.range d.nc).all fun i => !badW d.ces d.ns i) = true := by
        rw [List.all_eq_true]
        intro j hj
        rw [hno j (List.mem_range.1 hj)]; rfl
      simp +contextual (disch := first | omega | exact rfl | decide | exact kpF (by decide) | exact kpT (by decide) | assumption | exact Z2z | exact Z30 | exact Z32 | exact Z31 | exact Z33 | exact Z34 | (simp only [ZI] <;> omega) | simp only [ZK] | (simp only [ZL] <;> assumption)) only [ZH, SOp, GOp, ↓Z1c, Int.reduceAdd, Int.reduceSub, Int.reduceMul, Int.reduceNeg, accs, touch, touchM, okPair, Nat.reduceAdd, Nat.reduceLeDiff, Nat.reduceMul, Nat.reduceSub, isV, opA, grdO, grd, Z41, Int.reduceLT, Int.reduceLE, Int.reduceToNat, builtinP, builtinA, changes, fieldAddrA, resA, tupled, ↓reduceIte, Nat.reduceEqDiff, Nat.reduceLT, Z70, Int.reduceEq, dr43x4, Y3, Y4, Y5, Y31, Y32, Y34, Y47, Y132, Y148, g1, g3, l1, l3, Int.lt_irrefl]
      refine congrArg (fun b => (V.b b, σ)) ?_
      rw [formedB, hall, Bool.and_true, decide_eq_decide.2 (show (1 : Int) ≤ d.ns ↔ 0 < d.ns by omega), decide_eq_decide.2 (show (d.ns : Int) ≤ 4096 ↔ d.ns ≤ 4096 by omega)]
/-- Is the space's table formed. -/
def spaceB (s : SpaceR) : Bool :=
  decide (1 ≤ s.size) && decide (s.size ≤ 2000) && decide ((s.sl.length : Int) = 2 * s.size) && decide (0 ≤ s.at0) && decide (s.at0 + s.size ≤ s.at1) && decide (s.at1 + s.size ≤ 4096) && s.sl.all fun x => decide (x ≤ 4)
theorem max_ok (l : List Int) (h0 : 0 < l.length) (hb : l.length ≤ 140737488355328) {x : V} (hv : ∀ σ, View σ x (ints .u8 l)) : ∃ m, runF cfg 170 [x] σ p = some (.i .u8 m, σ) ∧ (decide (m ≤ 4) = l.all fun x => decide (x ≤ 4)) := by
  suffices hs : ∃ res, runF cfg 170 [x] σ p = some res ∧ ∃ m : Int, res = (.i .u8 m, σ) ∧ (decide (m ≤ 4) = l.all fun x => decide (x ≤ 4)) by
    obtain ⟨res, h1, k, rfl, h2⟩ := hs
    exact ⟨k, h1, h2⟩
  refine run_doneP rfl rfl Tryz.func170 rfl ?_
  have l1 := fun τ => (hv τ).len (C := cfg) (t := 39) sh39
  simp only [ints_len] at l1
  have e0 : ((l.length : Int) < 1) = False := eq_false (by omega)
  obtain ⟨a0, ha0, hla0⟩ := (hv []).at (C := cfg) sh39 sz5 ag5 .i64 0 (by rw [ints_len]; exact h0)
  have hl0 := fun τ => hla0 τ _ (hv τ)
  have ha0' : indexAddrA cfg 39 x (.i .i64 0) = some a0 := ha0
  have hg0 : (ints .u8 l)[0]? = some (.i .u8 (l.getD 0 0)) := ints_get' h0
  simp only [hg0] at hl0
  simp +contextual (disch := first | omega | exact rfl | decide | exact kpF (by decide) | exact kpT (by decide) | assumption | exact Z2z | exact Z30 | exact Z32 | exact Z31 | exact Z33 | exact Z34 | (simp only [ZI] <;> omega) | simp only [ZK] | (simp only [ZL] <;> assumption)) only [Tryz.f170, ZH, SOp, GOp, ↓Z1c, Int.reduceAdd, Int.reduceSub, Int.reduceMul, Int.reduceNeg, accs, touch, touchM, okPair, Nat.reduceAdd, Nat.reduceLeDiff, Nat.reduceMul, Nat.reduceSub, isV, opA, grdO, grd, Z41, Int.reduceLT, Int.reduceLE, Int.reduceToNat, builtinP, builtinA, changes, fieldAddrA, resA, tupled, ↓reduceIte, Nat.reduceEqDiff, Nat.reduceLT, Z70, Int.reduceEq, Y3, Y5, Y9, Y39, l1, e0, ha0', hl0]
  refine Wq.up (fun i s => s.nt = 25 ∧ s.σ = σ ∧ i + 1 ≤ l.length ∧ s.t.get 0 = some x ∧ s.t.get 4 = some (.i .i64 ((i : Int) + 1)) ∧ ∃ m : Int, s.t.get 3 = some (.i .u8 m) ∧ (decide (m ≤ 4) = (l.take (i + 1)).all fun x => decide (x ≤ 4))) (l.length - 1) ?_ ?_
  · refine ⟨rfl, rfl, by omega, ?_⟩
    simp +contextual (disch := first | omega | exact rfl | decide | exact kpF (by decide) | exact kpT (by decide) | assumption | exact Z2z | exact Z30 | exact Z32 | exact Z31 | exact Z33 | exact Z34 | (simp only [ZI] <;> omega) | simp only [ZK] | (simp only [ZL] <;> assumption)) only [ZH, SOp, GOp, ↓Z1c, Int.reduceAdd, Int.reduceSub, Int.reduceMul, Int.reduceNeg, accs, touch, touchM, okPair, Nat.reduceAdd, Nat.reduceLeDiff, Nat.reduceMul, Nat.reduceSub, isV, opA, grdO, grd, Z41, Int.reduceLT, Int.reduceLE, Int.reduceToNat, builtinP, builtinA, changes, fieldAddrA, resA, tupled, ↓reduceIte, Nat.reduceEqDiff, Nat.reduceLT, Z70, Int.reduceEq]
    refine ⟨_, rfl, ?_⟩
    cases l with
    | nil => simp at h0
    | cons a l => simp
  · rintro i ⟨t, nt, σ', c⟩ hi ⟨rfl, rfl, hil, g0, g4, m, g3, hm⟩
    by_cases hlt : i + 1 < l.length
    · have hlt' : (i : Int) + 1 < (l.length : Int) := by omega
      obtain ⟨a, ha, hla⟩ := (hv []).at (C := cfg) sh39 sz5 ag5 .i64 (i + 1) (by rw [ints_len]; exact hlt)
      have ha' : indexAddrA cfg 39 x (.i .i64 ((i : Int) + 1)) = some a := ha
      have hl1 := fun τ => hla τ _ (hv τ)
      simp only [ints_get' hlt] at hl1
      generalize hq : l.getD (i + 1) 0 = q at hl1
      have hm' : decide ((if m < q then q else m) ≤ 4) = (l.take (i + 1 + 1)).all fun x => decide (x ≤ 4) := by
        have ht : l.take (i + 1 + 1) = l.take (i + 1) ++ [q] := by
          rw [List.take_add_one, List.getElem?_eq_getElem hlt, ← hq, List.getD_eq_getElem?_getD, List.getElem?_eq_getElem hlt]; rfl
        rw [ht, List.all_append, ← hm]
        rw [Bool.eq_iff_iff]
        simp
        split <;> omega
      simp +contextual (disch := first | omega | exact rfl | decide | exact kpF (by decide) | exact kpT (by decide) | assumption | exact Z2z | exact Z30 | exact Z32 | exact Z31 | exact Z33 | exact Z34 | (simp only [ZI] <;> omega) | simp only [ZK] | (simp only [ZL] <;> assumption)) only [ZH, SOp, GOp, ↓Z1c, Int.reduceAdd, Int.reduceSub, Int.reduceMul, Int.reduceNeg, accs, touch, touchM, okPair, Nat.reduceAdd, Nat.reduceLeDiff, Nat.reduceMul, Nat.reduceSub, isV, opA, grdO, grd, Z41, Int.reduceLT, Int.reduceLE, Int.reduceToNat, builtinP, builtinA, changes, fieldAddrA, resA, tupled, ↓reduceIte, Nat.reduceEqDiff, Nat.reduceLT, Z70, Int.reduceEq, Y3, Y5, Y9, Y39, g0, g3, g4, l1, hlt', ha', hl1]
      exact ⟨by omega, hlt, rfl, _, rfl, hm'⟩
    · have hi' : i + 1 = l.length := by omega
      have hf : ((i : Int) + 1 < (l.length : Int)) = False := eq_false (by omega)
      simp +contextual (disch := first | omega | exact rfl | decide | exact kpF (by decide) | exact kpT (by decide) | assumption | exact Z2z | exact Z30 | exact Z32 | exact Z31 | exact Z33 | exact Z34 | (simp only [ZI] <;> omega) | simp only [ZK] | (simp only [ZL] <;> assumption)) only [ZH, SOp, GOp, ↓Z1c, Int.reduceAdd, Int.reduceSub, Int.reduceMul, Int.reduceNeg, accs, touch, touchM, okPair, Nat.reduceAdd, Nat.reduceLeDiff, Nat.reduceMul, Nat.reduceSub, isV, opA, grdO, grd, Z41, Int.reduceLT, Int.reduceLE, Int.reduceToNat, builtinP, builtinA, changes, fieldAddrA, resA, tupled, ↓reduceIte, Nat.reduceEqDiff, Nat.reduceLT, Z70, Int.reduceEq, Y3, Y5, Y9, Y39, g0, g3, g4, l1, hf, DoneP_ret, DoneP_normal]
      rw [hi', List.take_length] at hm
      exact ⟨m, rfl, hm⟩
end Go.Am.R2

/- Volumes: is the space's table formed, both ways. -/
namespace Go.Am.R2
open Go.Proofs
set_option maxRecDepth 100000
set_option linter.unusedSimpArgs false
set_option linter.unusedVariables false
variable {σ : List O} {p : List Nat}
theorem spaceB_iff {s : SpaceR} : spaceB s = true ↔ 1 ≤ s.size ∧ s.size ≤ 2000 ∧ (s.sl.length : Int) = 2 * s.size ∧ 0 ≤ s.at0 ∧ s.at0 + s.size ≤ s.at1 ∧ s.at1 + s.size ≤ 4096 ∧ (s.sl.all fun x => decide (x ≤ 4)) = true := by
  unfold spaceB
  simp only [Bool.and_eq_true, decide_eq_true_eq, and_assoc]
theorem spaceB_no {s : SpaceR} (h : ¬ (1 ≤ s.size ∧ s.size ≤ 2000 ∧ (s.sl.length : Int) = 2 * s.size ∧ 0 ≤ s.at0 ∧ s.at0 + s.size ≤ s.at1 ∧ s.at1 + s.size ≤ 4096)) : spaceB s = false := by
  cases hs : spaceB s with
  | false => rfl
  | true =>
    obtain ⟨a, b, c, d, e, f, _⟩ := spaceB_iff.1 hs
    exact absurd ⟨a, b, c, d, e, f⟩ h
theorem space_ok (s : SpaceR) (h : s.ok) : runF cfg 145 [.agg s.v] σ p = some (.b (spaceB s), σ) := by
  have hlen : ∀ τ, lenA cfg 39 τ s.st = some (.i .i64 s.sl.length) := fun τ => by
    have := (h.sv.view τ).len (C := cfg) (t := 39) sh39; rwa [ints_len] at this
  have o1 := h.sv.one
  have hb := h.b
  by_cases h1 : s.size < 1
  · rw [spaceB_no (by omega)]
    refine run_done rfl rfl Tryz.func145 rfl ?_
    simp +contextual (disch := first | omega | exact rfl | decide | exact kpF (by decide) | exact kpT (by decide) | assumption | exact Z2z | exact Z30 | exact Z32 | exact Z31 | exact Z33 | exact Z34 | (simp only [ZI] <;> omega) | simp only [ZK] | (simp only [ZL] <;> assumption)) only [Tryz.f145, ZH, SOp, GOp, ↓Z1c, Int.reduceAdd, Int.reduceSub, Int.reduceMul, Int.reduceNeg, accs, touch, touchM, okPair, Nat.reduceAdd, Nat.reduceLeDiff, Nat.reduceMul, Nat.reduceSub, isV, opA, grdO, grd, Z41, Int.reduceLT, Int.reduceLE, Int.reduceToNat, builtinP, builtinA, changes, fieldAddrA, resA, tupled, ↓reduceIte, Nat.reduceEqDiff, Nat.reduceLT, Z70, Int.reduceEq, Y3, Y5, Y38, Y39, Y41, SpaceR.v, o1, hlen, h1]
  by_cases h2 : 2000 < s.size
  · rw [spaceB_no (by omega)]
    refine run_done rfl rfl Tryz.func145 rfl ?_
    simp +contextual (disch := first | omega | exact rfl | decide | exact kpF (by decide) | exact kpT (by decide) | assumption | exact Z2z | exact Z30 | exact Z32 | exact Z31 | exact Z33 | exact Z34 | (simp only [ZI] <;> omega) | simp only [ZK] | (simp only [ZL] <;> assumption)) only [Tryz.f145, ZH, SOp, GOp, ↓Z1c, Int.reduceAdd, Int.reduceSub, Int.reduceMul, Int.reduceNeg, accs, touch, touchM, okPair, Nat.reduceAdd, Nat.reduceLeDiff, Nat.reduceMul, Nat.reduceSub, isV, opA, grdO, grd, Z41, Int.reduceLT, Int.reduceLE, Int.reduceToNat, builtinP, builtinA, changes, fieldAddrA, resA, tupled, ↓reduceIte, Nat.reduceEqDiff, Nat.reduceLT, Z70, Int.reduceEq, Y3, Y5, Y38, Y39, Y41, SpaceR.v, o1, hlen, h1, h2]
  by_cases h3 : (s.sl.length : Int) = 2 * s.size
  case neg =>
    rw [spaceB_no (by omega)]
    refine run_done rfl rfl Tryz.func145 rfl ?_
    simp +contextual (disch := first | omega | exact rfl | decide | exact kpF (by decide) | exact kpT (by decide) | assumption | exact Z2z | exact Z30 | exact Z32 | exact Z31 | exact Z33 | exact Z34 | (simp only [ZI] <;> omega) | simp only [ZK] | (simp only [ZL] <;> assumption)) only [Tryz.f145, ZH, SOp, GOp, ↓Z1c, Int.reduceAdd, Int.reduceSub, Int.reduceMul, Int.reduceNeg, accs, touch, touchM, okPair, Nat.reduceAdd, Nat.reduceLeDiff, Nat.reduceMul, Nat.reduceSub, isV, opA, grdO, grd, Z41, Int.reduceLT, Int.reduceLE, Int.reduceToNat, builtinP, builtinA, changes, fieldAddrA, resA, tupled, ↓reduceIte, Nat.reduceEqDiff, Nat.reduceLT, Z70, Int.reduceEq, Y3, Y5, Y38, Y39, Y41, SpaceR.v, o1, hlen, h1, h2, h3]
  by_cases h4 : s.at0 < 0
  · rw [spaceB_no (by omega)]
    refine run_done rfl rfl Tryz.func145 rfl ?_
    simp +contextual (disch := first | omega | exact rfl | decide | exact kpF (by decide) | exact kpT (by decide) | assumption | exact Z2z | exact Z30 | exact Z32 | exact Z31 | exact Z33 | exact Z34 | (simp only [ZI] <;> omega) | simp only [ZK] | (simp only [ZL] <;> assumption)) only [Tryz.f145, ZH, SOp, GOp, ↓Z1c, Int.reduceAdd, Int.reduceSub, Int.reduceMul, Int.reduceNeg, accs, touch, touchM, okPair, Nat.reduceAdd, Nat.reduceLeDiff, Nat.reduceMul, Nat.reduceSub, isV, opA, grdO, grd, Z41, Int.reduceLT, Int.reduceLE, Int.reduceToNat, builtinP, builtinA, changes, fieldAddrA, resA, tupled, ↓reduceIte, Nat.reduceEqDiff, Nat.reduceLT, Z70, Int.reduceEq, Y3, Y5, Y38, Y39, Y41, SpaceR.v, o1, hlen, h1, h2, h3, h4]
  by_cases h5 : s.at1 < 0
  · rw [spaceB_no (by omega)]
    refine run_done rfl rfl Tryz.func145 rfl ?_
    simp +contextual (disch := first | omega | exact rfl | decide | exact kpF (by decide) | exact kpT (by decide) | assumption | exact Z2z | exact Z30 | exact Z32 | exact Z31 | exact Z33 | exact Z34 | (simp only [ZI] <;> omega) | simp only [ZK] | (simp only [ZL] <;> assumption)) only [Tryz.f145, ZH, SOp, GOp, ↓Z1c, Int.reduceAdd, Int.reduceSub, Int.reduceMul, Int.reduceNeg, accs, touch, touchM, okPair, Nat.reduceAdd, Nat.reduceLeDiff, Nat.reduceMul, Nat.reduceSub, isV, opA, grdO, grd, Z41, Int.reduceLT, Int.reduceLE, Int.reduceToNat, builtinP, builtinA, changes, fieldAddrA, resA, tupled, ↓reduceIte, Nat.reduceEqDiff, Nat.reduceLT, Z70, Int.reduceEq, Y3, Y5, Y38, Y39, Y41, SpaceR.v, o1, hlen, h1, h2, h3, h4, h5]
  by_cases h6 : 4096 - s.size < s.at1
  · rw [spaceB_no (by omega)]
    refine run_done rfl rfl Tryz.func145 rfl ?_
    simp +contextual (disch := first | omega | exact rfl | decide | exact kpF (by decide) | exact kpT (by decide) | assumption | exact Z2z | exact Z30 | exact Z32 | exact Z31 | exact Z33 | exact Z34 | (simp only [ZI] <;> omega) | simp only [ZK] | (simp only [ZL] <;> assumption)) only [Tryz.f145, ZH, SOp, GOp, ↓Z1c, Int.reduceAdd, Int.reduceSub, Int.reduceMul, Int.reduceNeg, accs, touch, touchM, okPair, Nat.reduceAdd, Nat.reduceLeDiff, Nat.reduceMul, Nat.reduceSub, isV, opA, grdO, grd, Z41, Int.reduceLT, Int.reduceLE, Int.reduceToNat, builtinP, builtinA, changes, fieldAddrA, resA, tupled, ↓reduceIte, Nat.reduceEqDiff, Nat.reduceLT, Z70, Int.reduceEq, Y3, Y5, Y38, Y39, Y41, SpaceR.v, o1, hlen, h1, h2, h3, h4, h5, h6]
  by_cases h7 : s.at1 - s.size < s.at0
  · rw [spaceB_no (by omega)]
    refine run_done rfl rfl Tryz.func145 rfl ?_
    simp +contextual (disch := first | omega | exact rfl | decide | exact kpF (by decide) | exact kpT (by decide) | assumption | exact Z2z | exact Z30 | exact Z32 | exact Z31 | exact Z33 | exact Z34 | (simp only [ZI] <;> omega) | simp only [ZK] | (simp only [ZL] <;> assumption)) only [Tryz.f145, ZH, SOp, GOp, ↓Z1c, Int.reduceAdd, Int.reduceSub, Int.reduceMul, Int.reduceNeg, accs, touch, touchM, okPair, Nat.reduceAdd, Nat.reduceLeDiff, Nat.reduceMul, Nat.reduceSub, isV, opA, grdO, grd, Z41, Int.reduceLT, Int.reduceLE, Int.reduceToNat, builtinP, builtinA, changes, fieldAddrA, resA, tupled, ↓reduceIte, Nat.reduceEqDiff, Nat.reduceLT, Z70, Int.reduceEq, Y3, Y5, Y38, Y39, Y41, SpaceR.v, o1, hlen, h1, h2, h3, h4, h5, h6, h7]
  have hB : spaceB s = s.sl.all fun x => decide (x ≤ 4) := by
    rw [Bool.eq_iff_iff, spaceB_iff]
    exact ⟨fun q => q.2.2.2.2.2.2, fun q => ⟨by omega, by omega, h3, by omega, by omega, by omega, q⟩⟩
  refine run_done rfl rfl Tryz.func145 rfl ?_
  obtain ⟨m, hm, hm2⟩ := max_ok (σ := σ ++ [.cells (0 :: p) s.v]) (p := 1 :: p) s.sl (by omega) hb (fun τ => h.sv.view τ)
  simp only [SpaceR.v] at hm
  simp +contextual (disch := first | omega | exact rfl | decide | exact kpF (by decide) | exact kpT (by decide) | assumption | exact Z2z | exact Z30 | exact Z32 | exact Z31 | exact Z33 | exact Z34 | (simp only [ZI] <;> omega) | simp only [ZK] | (simp only [ZL] <;> assumption)) only [Tryz.f145, ZH, SOp, GOp, ↓Z1c, Int.reduceAdd, Int.reduceSub, Int.reduceMul, Int.reduceNeg, accs, touch, touchM, okPair, Nat.reduceAdd, Nat.reduceLeDiff, Nat.reduceMul, Nat.reduceSub, isV, opA, grdO, grd, Z41, Int.reduceLT, Int.reduceLE, Int.reduceToNat, builtinP, builtinA, changes, fieldAddrA, resA, tupled, ↓reduceIte, Nat.reduceEqDiff, Nat.reduceLT, Z70, Int.reduceEq, Y3, Y5, Y38, Y39, Y41, SpaceR.v, o1, hlen, h1, h2, h3, h4, h5, h6, h7, hm]
  rw [hm2, ← hB]
theorem space7_ok (s : SpaceR) (h : s.ok) : runF cfg 45 [.agg s.v] σ p = some (.b (spaceB s), σ) := by
  have hlen : ∀ τ, lenA cfg 39 τ s.st = some (.i .i64 s.sl.length) := fun τ => by
    have := (h.sv.view τ).len (C := cfg) (t := 39) sh39; rwa [ints_len] at this
  have o1 := h.sv.one
  have hb := h.b
  by_cases h1 : s.size < 1
  · rw [spaceB_no (by omega)]
    refine run_done rfl rfl Tryz.func45 rfl ?_
    simp +contextual (disch := first | omega | exact rfl | decide | exact kpF (by decide) | exact kpT (by decide) | assumption | exact Z2z | exact Z30 | exact Z32 | exact Z31 | exact Z33 | exact Z34 | (simp only [ZI] <;> omega) | simp only [ZK] | (simp only [ZL] <;> assumption)) only [Tryz.f45, ZH, SOp, GOp, ↓Z1c, Int.reduceAdd, Int.reduceSub, Int.reduceMul, Int.reduceNeg, accs, touch, touchM, okPair, Nat.reduceAdd, Nat.reduceLeDiff, Nat.reduceMul, Nat.reduceSub, isV, opA, grdO, grd, Z41, Int.reduceLT, Int.reduceLE, Int.reduceToNat, builtinP, builtinA, changes, fieldAddrA, resA, tupled, ↓reduceIte, Nat.reduceEqDiff, Nat.reduceLT, Z70, Int.reduceEq, Y3, Y5, Y38, Y39, Y41, SpaceR.v, o1, hlen, h1]
  by_cases h2 : 2000 < s.size
  · rw [spaceB_no (by omega)]
    refine run_done rfl rfl Tryz.func45 rfl ?_
    simp +contextual (disch := first | omega | exact rfl | decide | exact kpF (by decide) | exact kpT (by decide) | assumption | exact Z2z | exact Z30 | exact Z32 | exact Z31 | exact Z33 | exact Z34 | (simp only [ZI] <;> omega) | simp only [ZK] | (simp only [ZL] <;> assumption)) only [Tryz.f45, ZH, SOp, GOp, ↓Z1c, Int.reduceAdd, Int.reduceSub, Int.reduceMul, Int.reduceNeg, accs, touch, touchM, okPair, Nat.reduceAdd, Nat.reduceLeDiff, Nat.reduceMul, Nat.reduceSub, isV, opA, grdO, grd, Z41, Int.reduceLT, Int.reduceLE, Int.reduceToNat, builtinP, builtinA, changes, fieldAddrA, resA, tupled, ↓reduceIte, Nat.reduceEqDiff, Nat.reduceLT, Z70, Int.reduceEq, Y3, Y5, Y38, Y39, Y41, SpaceR.v, o1, hlen, h1, h2]
  by_cases h4 : s.at0 < 0
  · rw [spaceB_no (by omega)]
    refine run_done rfl rfl Tryz.func45 rfl ?_
    simp +contextual (disch := first | omega | exact rfl | decide | exact kpF (by decide) | exact kpT (by decide) | assumption | exact Z2z | exact Z30 | exact Z32 | exact Z31 | exact Z33 | exact Z34 | (simp only [ZI] <;> omega) | simp only [ZK] | (simp only [ZL] <;> assumption)) only [Tryz.f45, ZH, SOp, GOp, ↓Z1c, Int.reduceAdd, Int.reduceSub, Int.reduceMul, Int.reduceNeg, accs, touch, touchM, okPair, Nat.reduceAdd, Nat.reduceLeDiff, Nat.reduceMul, Nat.reduceSub, isV, opA, grdO, grd, Z41, Int.reduceLT, Int.reduceLE, Int.reduceToNat, builtinP, builtinA, changes, fieldAddrA, resA, tupled, ↓reduceIte, Nat.reduceEqDiff, Nat.reduceLT, Z70, Int.reduceEq, Y3, Y5, Y38, Y39, Y41, SpaceR.v, o1, hlen, h1, h2, h4]
  by_cases h8 : 4096 < s.at0
  · rw [spaceB_no (by omega)]
    refine run_done rfl rfl Tryz.func45 rfl ?_
    simp +contextual (disch := first | omega | exact rfl | decide | exact kpF (by decide) | exact kpT (by decide) | assumption | exact Z2z | exact Z30 | exact Z32 | exact Z31 | exact Z33 | exact Z34 | (simp only [ZI] <;> omega) | simp only [ZK] | (simp only [ZL] <;> assumption)) only [Tryz.f45, ZH, SOp, GOp, ↓Z1c, Int.reduceAdd, Int.reduceSub, Int.reduceMul, Int.reduceNeg, accs, touch, touchM, okPair, Nat.reduceAdd, Nat.reduceLeDiff, Nat.reduceMul, Nat.reduceSub, isV, opA, grdO, grd, Z41, Int.reduceLT, Int.reduceLE, Int.reduceToNat, builtinP, builtinA, changes, fieldAddrA, resA, tupled, ↓reduceIte, Nat.reduceEqDiff, Nat.reduceLT, Z70, Int.reduceEq, Y3, Y5, Y38, Y39, Y41, SpaceR.v, o1, hlen, h1, h2, h4, h8]
  by_cases h9 : s.at1 < s.at0 + s.size
  · rw [spaceB_no (by omega)]
    refine run_done rfl rfl Tryz.func45 rfl ?_
    simp +contextual (disch := first | omega | exact rfl | decide | exact kpF (by decide) | exact kpT (by decide) | assumption | exact Z2z | exact Z30 | exact Z32 | exact Z31 | exact Z33 | exact Z34 | (simp only [ZI] <;> omega) | simp only [ZK] | (simp only [ZL] <;> assumption)) only [Tryz.f45, ZH, SOp, GOp, ↓Z1c, Int.reduceAdd, Int.reduceSub, Int.reduceMul, Int.reduceNeg, accs, touch, touchM, okPair, Nat.reduceAdd, Nat.reduceLeDiff, Nat.reduceMul, Nat.reduceSub, isV, opA, grdO, grd, Z41, Int.reduceLT, Int.reduceLE, Int.reduceToNat, builtinP, builtinA, changes, fieldAddrA, resA, tupled, ↓reduceIte, Nat.reduceEqDiff, Nat.reduceLT, Z70, Int.reduceEq, Y3, Y5, Y38, Y39, Y41, SpaceR.v, o1, hlen, h1, h2, h4, h8, h9]
  by_cases h6 : 4096 - s.size < s.at1
  · rw [spaceB_no (by omega)]
    refine run_done rfl rfl Tryz.func45 rfl ?_
    simp +contextual (disch := first | omega | exact rfl | decide | exact kpF (by decide) | exact kpT (by decide) | assumption | exact Z2z | exact Z30 | exact Z32 | exact Z31 | exact Z33 | exact Z34 | (simp only [ZI] <;> omega) | simp only [ZK] | (simp only [ZL] <;> assumption)) only [Tryz.f45, ZH, SOp, GOp, ↓Z1c, Int.reduceAdd, Int.reduceSub, Int.reduceMul, Int.reduceNeg, accs, touch, touchM, okPair, Nat.reduceAdd, Nat.reduceLeDiff, Nat.reduceMul, Nat.reduceSub, isV, opA, grdO, grd, Z41, Int.reduceLT, Int.reduceLE, Int.reduceToNat, builtinP, builtinA, changes, fieldAddrA, resA, tupled, ↓reduceIte, Nat.reduceEqDiff, Nat.reduceLT, Z70, Int.reduceEq, Y3, Y5, Y38, Y39, Y41, SpaceR.v, o1, hlen, h1, h2, h4, h8, h9, h6]
  by_cases h3 : (s.sl.length : Int) = 2 * s.size
  case neg =>
    rw [spaceB_no (by omega)]
    refine run_done rfl rfl Tryz.func45 rfl ?_
    simp +contextual (disch := first | omega | exact rfl | decide | exact kpF (by decide) | exact kpT (by decide) | assumption | exact Z2z | exact Z30 | exact Z32 | exact Z31 | exact Z33 | exact Z34 | (simp only [ZI] <;> omega) | simp only [ZK] | (simp only [ZL] <;> assumption)) only [Tryz.f45, ZH, SOp, GOp, ↓Z1c, Int.reduceAdd, Int.reduceSub, Int.reduceMul, Int.reduceNeg, accs, touch, touchM, okPair, Nat.reduceAdd, Nat.reduceLeDiff, Nat.reduceMul, Nat.reduceSub, isV, opA, grdO, grd, Z41, Int.reduceLT, Int.reduceLE, Int.reduceToNat, builtinP, builtinA, changes, fieldAddrA, resA, tupled, ↓reduceIte, Nat.reduceEqDiff, Nat.reduceLT, Z70, Int.reduceEq, Y3, Y5, Y38, Y39, Y41, SpaceR.v, o1, hlen, h1, h2, h4, h8, h9, h6, h3]
  have hB : spaceB s = s.sl.all fun x => decide (x ≤ 4) := by
    rw [Bool.eq_iff_iff, spaceB_iff]
    exact ⟨fun q => q.2.2.2.2.2.2, fun q => ⟨by omega, by omega, h3, by omega, by omega, by omega, q⟩⟩
  rw [hB]
  refine run_done rfl rfl Tryz.func45 rfl ?_
  simp +contextual (disch := first | omega | exact rfl | decide | exact kpF (by decide) | exact kpT (by decide) | assumption | exact Z2z | exact Z30 | exact Z32 | exact Z31 | exact Z33 | exact Z34 | (simp only [ZI] <;> omega) | simp only [ZK] | (simp only [ZL] <;> assumption)) only [Tryz.f45, ZH, SOp, GOp, ↓Z1c, Int.reduceAdd, Int.reduceSub, Int.reduceMul, Int.reduceNeg, accs, touch, touchM, okPair, Nat.reduceAdd, Nat.reduceLeDiff, Nat.reduceMul, Nat.reduceSub, isV, opA, grdO, grd, Z41, Int.reduceLT, Int.reduceLE, Int.reduceToNat, builtinP, builtinA, changes, fieldAddrA, resA, tupled, ↓reduceIte, Nat.reduceEqDiff, Nat.reduceLT, Z70, Int.reduceEq, Y3, Y5, Y38, Y39, Y41, SpaceR.v, o1, hlen, h1, h2, h4, h8, h9, h6, h3]
  refine Wq.up (fun i t => t.nt = 67 ∧ t.σ = σ ++ [.cells (0 :: p) s.v] ∧ t.t.get 1 = some (.ptr σ.length (0 :: p) 0) ∧ t.t.get 3 = some (.i .i64 (i : Nat)) ∧ ∀ j, j < i → s.sl.getD j 0 ≤ 4) s.sl.length ?_ ?_
  · refine ⟨rfl, rfl, ?_⟩
    simp +contextual (disch := first | omega | exact rfl | decide | exact kpF (by decide) | exact kpT (by decide) | assumption | exact Z2z | exact Z30 | exact Z32 | exact Z31 | exact Z33 | exact Z34 | (simp only [ZI] <;> omega) | simp only [ZK] | (simp only [ZL] <;> assumption)) only [ZH, SOp, GOp, ↓Z1c, Int.reduceAdd, Int.reduceSub, Int.reduceMul, Int.reduceNeg, accs, touch, touchM, okPair, Nat.reduceAdd, Nat.reduceLeDiff, Nat.reduceMul, Nat.reduceSub, isV, opA, grdO, grd, Z41, Int.reduceLT, Int.reduceLE, Int.reduceToNat, builtinP, builtinA, changes, fieldAddrA, resA, tupled, ↓reduceIte, Nat.reduceEqDiff, Nat.reduceLT, Z70, Int.reduceEq]
    exact fun j hj => absurd hj (by omega)
  · rintro i ⟨t, nt, σ', c⟩ hi ⟨rfl, rfl, g1, g3, hno⟩
    simp only [SpaceR.v] at g1 g3 ⊢
    by_cases hlt : i < s.sl.length
    · have hlt' : (i : Int) < (s.sl.length : Int) := by omega
      obtain ⟨a, ha, hla⟩ := (h.sv.view []).at (C := cfg) sh39 sz5 ag5 .i64 i (by rw [ints_len]; exact hlt)
      have hl1 := fun τ => hla τ _ (h.sv.view τ)
      simp only [ints_get' hlt] at hl1
      by_cases hq : 4 < s.sl.getD i 0
      · have hall : (s.sl.all fun x => decide (x ≤ 4)) = false := by
          rw [List.all_eq_false]
          refine ⟨s.sl[i], List.getElem_mem hlt, ?_⟩
          rw [List.getD_eq_getElem?_getD, List.getElem?_eq_getElem hlt] at hq
          simp at hq ⊢; omega
        simp +contextual (disch := first | omega | exact rfl | decide | exact kpF (by decide) | exact kpT (by decide) | assumption | exact Z2z | exact Z30 | exact Z32 | exact Z31 | exact Z33 | exact Z34 | (simp only [ZI] <;> omega) | simp only [ZK] | (simp only [ZL] <;> assumption)) only [ZH, SOp, GOp, ↓Z1c, Int.reduceAdd, Int.reduceSub, Int.reduceMul, Int.reduceNeg, accs, touch, touchM, okPair, Nat.reduceAdd, Nat.reduceLeDiff, Nat.reduceMul, Nat.reduceSub, isV, opA, grdO, grd, Z41, Int.reduceLT, Int.reduceLE, Int.reduceToNat, builtinP, builtinA, changes, fieldAddrA, resA, tupled, ↓reduceIte, Nat.reduceEqDiff, Nat.reduceLT, Z70, Int.reduceEq, Y3, Y5, Y38, Y39, Y41, g1, g3, hlen, hlt', ha, hl1, hq, hall]
      · simp +contextual (disch := first | omega | exact rfl | decide | exact kpF (by decide) | exact kpT (by decide) | assumption | exact Z2z | exact Z30 | exact Z32 | exact Z31 | exact Z33 | exact Z34 | (simp only [ZI] <;> omega) | simp only [ZK] | (simp only [ZL] <;> assumption)) only [ZH, SOp, GOp, ↓Z1c, Int.reduceAdd, Int.reduceSub, Int.reduceMul, Int.reduceNeg, accs, touch, touchM, okPair, Nat.reduceAdd, Nat.reduceLeDiff, Nat.reduceMul, Nat.reduceSub, isV, opA, grdO, grd, Z41, Int.reduceLT, Int.reduceLE, Int.reduceToNat, builtinP, builtinA, changes, fieldAddrA, resA, tupled, ↓reduceIte, Nat.reduceEqDiff, Nat.reduceLT, Z70, Int.reduceEq, Y3, Y5, Y38, Y39, Y41, g1, g3, hlen, hlt', ha, hl1, hq]
        refine ⟨hlt, rfl, fun j hj => ?_⟩
        by_cases he : j = i
        · subst he; omega
        · exact hno j (by omega)
    · have hi' : i = s.sl.length := by omega
      subst hi'
      have hall : (s.sl.all fun x => decide (x ≤ 4)) = true := by
        rw [List.all_eq_true]
        intro x hx
        obtain ⟨j, hj, rfl⟩ := List.mem_iff_getElem.1 hx
        have := hno j hj
        rw [List.getD_eq_getElem?_getD, List.getElem?_eq_getElem hj] at this
        simpa using this
      simp +contextual (disch := first | omega | exact rfl | decide | exact kpF (by decide) | exact kpT (by decide) | assumption | exact Z2z | exact Z30 | exact Z32 | exact Z31 | exact Z33 | exact Z34 | (simp only [ZI] <;> omega) | simp only [ZK] | (simp only [ZL] <;> assumption)) only [ZH, SOp, GOp, ↓Z1c, Int.reduceAdd, Int.reduceSub, Int.reduceMul, Int.reduceNeg, accs, touch, touchM, okPair, Nat.reduceAdd, Nat.reduceLeDiff, Nat.reduceMul, Nat.reduceSub, isV, opA, grdO, grd, Z41, Int.reduceLT, Int.reduceLE, Int.reduceToNat, builtinP, builtinA, changes, fieldAddrA, resA, tupled, ↓reduceIte, Nat.reduceEqDiff, Nat.reduceLT, Z70, Int.reduceEq, Y3, Y5, Y38, Y39, Y41, g1, g3, hlen, Int.lt_irrefl, hall]
end Go.Am.R2

/- Volumes: how many blocks are used, both ways; where the regions lie. -/
namespace Go.Am.R2
open Go.Proofs
set_option maxRecDepth 100000
set_option linter.unusedSimpArgs false
set_option linter.unusedVariables false
variable {σ : List O} {p : List Nat}
def usedB (x : Int) : Bool := decide (x = 1) || decide (x = 2)
def usedI (s : SpaceR) : Int := if spaceB s then ((s.sl.filter usedB).length : Nat) else 0
theorem filt_snoc {l : List Int} {i : Nat} (h : i < l.length) : ((l.take (i + 1)).filter usedB).length = ((l.take i).filter usedB).length + (if usedB (l.getD i 0) then 1 else 0) := by
  have : l.take (i + 1) = l.take i ++ [l.getD i 0] := by rw [List.take_add_one, List.getD_eq_getElem?_getD, List.getElem?_eq_getElem h]; rfl
  rw [this, List.filter_append, List.length_append]
  generalize l.getD i 0 = x
  cases hu : usedB x <;> simp [hu]
theorem used7_ok (s : SpaceR) (h : s.ok) : runF cfg 39 [.agg s.v] σ p = some (.i .i64 (usedI s), σ) := by
  have hlen : ∀ τ, lenA cfg 39 τ s.st = some (.i .i64 s.sl.length) := fun τ => by
    have := (h.sv.view τ).len (C := cfg) (t := 39) sh39; rwa [ints_len] at this
  have o1 := h.sv.one
  have hb := h.b
  have hs := fun (τ : List O) q => space7_ok (σ := τ) (p := q) s h
  simp only [SpaceR.v] at hs
  refine run_done rfl rfl Tryz.func39 rfl ?_
  simp +contextual (disch := first | omega | exact rfl | decide | exact kpF (by decide) | exact kpT (by decide) | assumption | exact Z2z | exact Z30 | exact Z32 | exact Z31 | exact Z33 | exact Z34 | (simp only [ZI] <;> omega) | simp only [ZK] | (simp only [ZL] <;> assumption)) only [Tryz.f39, ZH, SOp, GOp, ↓Z1c, Int.reduceAdd, Int.reduceSub, Int.reduceMul, Int.reduceNeg, accs, touch, touchM, okPair, Nat.reduceAdd, Nat.reduceLeDiff, Nat.reduceMul, Nat.reduceSub, isV, opA, grdO, grd, Z41, Int.reduceLT, Int.reduceLE, Int.reduceToNat, builtinP, builtinA, changes, fieldAddrA, resA, tupled, ↓reduceIte, Nat.reduceEqDiff, Nat.reduceLT, Z70, Int.reduceEq, Y3, Y5, Y38, Y39, Y41, SpaceR.v, o1]
  refine Wq.up (fun i t => t.nt = 33 ∧ t.σ = σ ++ [.cells (0 :: p) s.v] ∧ t.t.get 1 = some (.ptr σ.length (0 :: p) 0) ∧ t.t.get 4 = some (.i .i64 (i : Nat)) ∧ t.t.get 3 = some (.i .i64 ((s.sl.take i).filter usedB).length) ∧ (0 < i → spaceB s = true)) s.sl.length ?_ ?_
  · refine ⟨rfl, rfl, ?_⟩
    simp +contextual (disch := first | omega | exact rfl | decide | exact kpF (by decide) | exact kpT (by decide) | assumption | exact Z2z | exact Z30 | exact Z32 | exact Z31 | exact Z33 | exact Z34 | (simp only [ZI] <;> omega) | simp only [ZK] | (simp only [ZL] <;> assumption)) only [ZH, SOp, GOp, ↓Z1c, Int.reduceAdd, Int.reduceSub, Int.reduceMul, Int.reduceNeg, accs, touch, touchM, okPair, Nat.reduceAdd, Nat.reduceLeDiff, Nat.reduceMul, Nat.reduceSub, isV, opA, grdO, grd, Z41, Int.reduceLT, Int.reduceLE, Int.reduceToNat, builtinP, builtinA, changes, fieldAddrA, resA, tupled, ↓reduceIte, Nat.reduceEqDiff, Nat.reduceLT, Z70, Int.reduceEq, List.filter_nil]
  · rintro i ⟨t, nt, σ', c⟩ hi ⟨rfl, rfl, g1, g4, g3, hpos⟩
    simp only [SpaceR.v] at g1 g4 g3 ⊢
    by_cases hlt : i < s.sl.length
    · have hlt' : (i : Int) < (s.sl.length : Int) := by omega
      cases hsb : spaceB s with
      | false =>
        have hi0 : i = 0 := by
          by_cases h0 : 0 < i
          · rw [hpos h0] at hsb; cases hsb
          · omega
        subst hi0
        simp +contextual (disch := first | omega | exact rfl | decide | exact kpF (by decide) | exact kpT (by decide) | assumption | exact Z2z | exact Z30 | exact Z32 | exact Z31 | exact Z33 | exact Z34 | (simp only [ZI] <;> omega) | simp only [ZK] | (simp only [ZL] <;> assumption)) only [ZH, SOp, GOp, ↓Z1c, Int.reduceAdd, Int.reduceSub, Int.reduceMul, Int.reduceNeg, accs, touch, touchM, okPair, Nat.reduceAdd, Nat.reduceLeDiff, Nat.reduceMul, Nat.reduceSub, isV, opA, grdO, grd, Z41, Int.reduceLT, Int.reduceLE, Int.reduceToNat, builtinP, builtinA, changes, fieldAddrA, resA, tupled, ↓reduceIte, Nat.reduceEqDiff, Nat.reduceLT, Z70, Int.reduceEq, Y3, Y5, Y38, Y39, Y41, g1, g4, g3, hlen, hlt', hs, hsb, usedI, List.filter_nil]
      | true =>
        obtain ⟨a, ha, hla⟩ := (h.sv.view []).at (C := cfg) sh39 sz5 ag5 .i64 i (by rw [ints_len]; exact hlt)
        have hl1 := fun τ => hla τ _ (h.sv.view τ)
        simp only [ints_get' hlt] at hl1
        have hfl : ((s.sl.take i).filter usedB).length ≤ s.sl.length := Nat.le_trans (List.length_filter_le _ _) (by rw [List.length_take]; omega)
        have hsn := filt_snoc hlt
        have hu' : usedB (s.sl.getD i 0) = (decide (s.sl.getD i 0 = 1) || decide (s.sl.getD i 0 = 2)) := rfl
        generalize s.sl.getD i 0 = x at hl1 hsn hu'
        by_cases hx1 : x = 1
        · have hu : usedB x = true := by rw [hu', hx1]; rfl
          rw [hu, if_pos rfl] at hsn
          simp +contextual (disch := first | omega | exact rfl | decide | exact kpF (by decide) | exact kpT (by decide) | assumption | exact Z2z | exact Z30 | exact Z32 | exact Z31 | exact Z33 | exact Z34 | (simp only [ZI] <;> omega) | simp only [ZK] | (simp only [ZL] <;> assumption)) only [ZH, SOp, GOp, ↓Z1c, Int.reduceAdd, Int.reduceSub, Int.reduceMul, Int.reduceNeg, accs, touch, touchM, okPair, Nat.reduceAdd, Nat.reduceLeDiff, Nat.reduceMul, Nat.reduceSub, isV, opA, grdO, grd, Z41, Int.reduceLT, Int.reduceLE, Int.reduceToNat, builtinP, builtinA, changes, fieldAddrA, resA, tupled, ↓reduceIte, Nat.reduceEqDiff, Nat.reduceLT, Z70, Int.reduceEq, Y3, Y5, Y38, Y39, Y41, g1, g4, g3, hlen, hlt', hs, hsb, ha, hl1, hx1, hsn]
          exact ⟨hlt, rfl, rfl⟩
        · by_cases hx2 : x = 2
          · have hu : usedB x = true := by rw [hu', hx2]; rfl
            rw [hu, if_pos rfl] at hsn
            simp +contextual (disch := first | omega | exact rfl | decide | exact kpF (by decide) | exact kpT (by decide) | assumption | exact Z2z | exact Z30 | exact Z32 | exact Z31 | exact Z33 | exact Z34 | (simp only [ZI] <;> omega) | simp only [ZK] | (simp only [ZL] <;> assumption)) only [ZH, SOp, GOp, ↓Z1c, Int.reduceAdd, Int.reduceSub, Int.reduceMul, Int.reduceNeg, accs, touch, touchM, okPair, Nat.reduceAdd, Nat.reduceLeDiff, Nat.reduceMul, Nat.reduceSub, isV, opA, grdO, grd, Z41, Int.reduceLT, Int.reduceLE, Int.reduceToNat, builtinP, builtinA, changes, fieldAddrA, resA, tupled, ↓reduceIte, Nat.reduceEqDiff, Nat.reduceLT, Z70, Int.reduceEq, Y3, Y5, Y38, Y39, Y41, g1, g4, g3, hlen, hlt', hs, hsb, ha, hl1, hx1, hx2, hsn]
            exact ⟨hlt, rfl, rfl⟩
          · have hu : usedB x = false := by rw [hu', decide_eq_false hx1, decide_eq_false hx2]; rfl
            rw [hu, if_neg (by decide), Nat.add_zero] at hsn
            simp +contextual (disch := first | omega | exact rfl | decide | exact kpF (by decide) | exact kpT (by decide) | assumption | exact Z2z | exact Z30 | exact Z32 | exact Z31 | exact Z33 | exact Z34 | (simp only [ZI] <;> omega) | simp only [ZK] | (simp only [ZL] <;> assumption)) only [ZH, SOp, GOp, ↓Z1c, Int.reduceAdd, Int.reduceSub, Int.reduceMul, Int.reduceNeg, accs, touch, touchM, okPair, Nat.reduceAdd, Nat.reduceLeDiff, Nat.reduceMul, Nat.reduceSub, isV, opA, grdO, grd, Z41, Int.reduceLT, Int.reduceLE, Int.reduceToNat, builtinP, builtinA, changes, fieldAddrA, resA, tupled, ↓reduceIte, Nat.reduceEqDiff, Nat.reduceLT, Z70, Int.reduceEq, Y3, Y5, Y38, Y39, Y41, g1, g4, g3, hlen, hlt', hs, hsb, ha, hl1, hx1, hx2, hsn]
            exact ⟨hlt, rfl⟩
    · have hi' : i = s.sl.length := by omega
      subst hi'
      rw [List.take_length] at g3
      cases hsb : spaceB s with
      | false =>
        have h0 : s.sl.length = 0 := by
          by_cases h0 : 0 < s.sl.length
          · rw [hpos h0] at hsb; cases hsb
          · omega
        rw [List.eq_nil_of_length_eq_zero h0] at g3
        simp +contextual (disch := first | omega | exact rfl | decide | exact kpF (by decide) | exact kpT (by decide) | assumption | exact Z2z | exact Z30 | exact Z32 | exact Z31 | exact Z33 | exact Z34 | (simp only [ZI] <;> omega) | simp only [ZK] | (simp only [ZL] <;> assumption)) only [ZH, SOp, GOp, ↓Z1c, Int.reduceAdd, Int.reduceSub, Int.reduceMul, Int.reduceNeg, accs, touch, touchM, okPair, Nat.reduceAdd, Nat.reduceLeDiff, Nat.reduceMul, Nat.reduceSub, isV, opA, grdO, grd, Z41, Int.reduceLT, Int.reduceLE, Int.reduceToNat, builtinP, builtinA, changes, fieldAddrA, resA, tupled, ↓reduceIte, Nat.reduceEqDiff, Nat.reduceLT, Z70, Int.reduceEq, Y3, Y5, Y38, Y39, Y41, g1, g4, g3, hlen, hs, Int.lt_irrefl, usedI, hsb, List.filter_nil]
      | true => simp +contextual (disch := first | omega | exact rfl | decide | exact kpF (by decide) | exact kpT (by decide) | assumption | exact Z2z | exact Z30 | exact Z32 | exact Z31 | exact Z33 | exact Z34 | (simp only [ZI] <;> omega) | simp only [ZK] | (simp only [ZL] <;> assumption)) only [ZH, SOp, GOp, ↓Z1c, Int.reduceAdd, Int.reduceSub, Int.reduceMul, Int.reduceNeg, accs, touch, touchM, okPair, Nat.reduceAdd, Nat.reduceLeDiff, Nat.reduceMul, Nat.reduceSub, isV, opA, grdO, grd, Z41, Int.reduceLT, Int.reduceLE, Int.reduceToNat, builtinP, builtinA, changes, fieldAddrA, resA, tupled, ↓reduceIte, Nat.reduceEqDiff, Nat.reduceLT, Z70, Int.reduceEq, Y3, Y5, Y38, Y39, Y41, g1, g4, g3, hlen, hs, Int.lt_irrefl, usedI, hsb]
end Go.Am.R2
