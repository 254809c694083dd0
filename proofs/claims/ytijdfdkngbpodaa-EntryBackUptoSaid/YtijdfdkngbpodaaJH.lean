/- Parts of one machine and of the walks over it, joined: K0j K0h K0 K0b K0c K0d. -/
import Derived.Test.YtijdfdkngbpodaaChecked
import Derived.Test.YtijdfdkngbpodaaAmJoin
import Derived.Test.YtijdfdkngbpodaaAmPrim
import Derived.Test.YtijdfdkngbpodaaAmHook
import Derived.Test.YtijdfdkngbpodaaAmOver
import Derived.Test.YtijdfdkngbpodaaAmView
import Derived.Test.YtijdfdkngbpodaaAmFlat
/- strings.Join, told by its contract. -/
namespace Go.Am.R1
open Go.Proofs Go.Shelf Go.RowKit
set_option linter.unusedVariables false
def joinRen : Ren where
  f := fun x => match x with | 156 => 130 | 165 => 152 | 166 => 153 | 169 => 154 | 240 => 174 | 241 => 175 | 276 => 184 | 277 => 185 | n => n
  t := fun x => match x with | 31 => 72 | 9 => 9 | 3 => 3 | 4 => 4 | 0 => 0 | 20 => 20 | 72 => 178 | 76 => 182 | 70 => 176 | 37 => 22 | 75 => 181 | 127 => 199 | 164 => 208 | 5 => 5 | 80 => 184 | n => n
  g := fun n => n
theorem joinLays : Lays.n156 Try.prog joinRen where
  mixed := by kernel_rfl
  f156 := Eq.trans Try.func130 (by kernel_rfl)
  f165 := Eq.trans Try.func152 (by kernel_rfl)
  f166 := Eq.trans Try.func153 (by kernel_rfl)
  f169 := Eq.trans Try.func154 (by kernel_rfl)
  f240 := Eq.trans Try.func174 (by kernel_rfl)
  f241 := Eq.trans Try.func175 (by kernel_rfl)
  f276 := Eq.trans Try.func184 (by kernel_rfl)
  f277 := Eq.trans Try.func185 (by kernel_rfl)
  t0 := Try.underlying0
  a0 := Try.isAgg0
  z0 := Try.sizeOf0
  v0 := Try.zeroValue0
  t3 := Try.underlying3
  a3 := Try.isAgg3
  z3 := Try.sizeOf3
  v3 := Try.zeroValue3
  t4 := Try.underlying4
  a4 := Try.isAgg4
  z4 := Try.sizeOf4
  v4 := Try.zeroValue4
  t9 := Try.underlying9
  a9 := Try.isAgg9
  z9 := Try.sizeOf9
  v9 := Try.zeroValue9
  t20 := Try.underlying20
  a20 := Try.isAgg20
  z20 := Try.sizeOf20
  v20 := Try.zeroValue20
  t31 := Try.underlying72
  a31 := Try.isAgg72
  z31 := Try.sizeOf72
  v31 := Try.zeroValue72
  t37 := Try.underlying22
  a37 := Try.isAgg22
  z37 := Try.sizeOf22
  v37 := Try.zeroValue22
  t70 := Try.underlying176
  a70 := Try.isAgg176
  z70 := Try.sizeOf176
  v70 := Try.zeroValue176
  t72 := Try.underlying178
  a72 := Try.isAgg178
  z72 := Try.sizeOf178
  v72 := Try.zeroValue178
  t75 := Try.underlying181
  a75 := Try.isAgg181
  z75 := Try.sizeOf181
  v75 := Try.zeroValue181
  t76 := Try.underlying182
  a76 := Try.isAgg182
  z76 := Try.sizeOf182
  v76 := Try.zeroValue182
  t127 := Try.underlying199
  a127 := Try.isAgg199
  z127 := Try.sizeOf199
  v127 := Try.zeroValue199
  t164 := Try.underlying208
  a164 := Try.isAgg208
  z164 := Try.sizeOf208
  v164 := Try.zeroValue208
theorem joinExtra : Builder.Extra Try.prog joinRen where
  sizeBuilder := by kernel_rfl
  liesBuilder := by kernel_rfl
  t5 := Try.underlying5
  a5 := Try.isAgg5
  z5 := Try.sizeOf5
  v5 := Try.zeroValue5
  infoByte := by kernel_rfl
  cellsByte := by kernel_rfl
  sizeByte := by kernel_rfl
  neB5 := by decide
theorem join_prim {C : Cfg} (hC : C.P = Try.prog) : PrimAt C 130 pJoin := by
  obtain ⟨P, a, b, c, d, e, f⟩ := C
  simp only at hC
  subst hC
  exact prim_join (by kernel_rfl) Try.func130 rfl (fun a k sep w => Any.strings_Join_none joinLays joinExtra a k sep w) (fun bk o k xs sep w h1 h2 h3 h4 h5 => Any.strings_Join joinLays joinExtra bk o k xs sep w h1 h2 h3 h4 h5)
end Go.Am.R1

/- Entries put in between, and taken out: what calls of the library come to. -/
namespace Go.Am.R1
set_option linter.unusedVariables false
set_option linter.unusedSimpArgs false
def insV (i : Nat) (cs vs : List V) : List V := cs.take (i * 2) ++ vs ++ cs.drop (i * 2)
def delV (i : Nat) (cs : List V) : List V := cs.take (i * 2) ++ cs.drop (i * 2 + 2)
/-- slices.Insert of one entry. -/
def pIns : List V → List O → List Nat → Option (V × List O)
  | [.sl r st o n z none, .i .i64 i, .sl r2 st2 o2 n2 z2 (some c2)], σ, p => (rowAt σ r st).bind fun cs => (rowAt σ r2 st2).bind fun vs =>
    if o = 0 ∧ z = 2 ∧ o2 = 0 ∧ n2 = 1 ∧ z2 = 2 ∧ c2 = 1 ∧ cs.length = n * 2 ∧ vs.length = 2 ∧ r ≠ r2 ∧ 0 ≤ i ∧ i ≤ n ∧ 0 < n ∧ n ≤ 1000000 then
      some (.sl r (1 :: p) 0 (n + 1) 2 none, σ.set r (.cells (1 :: p) (insV i.toNat cs vs)))
    else none
  | [.nils, .i .i64 i, .sl r2 st2 o2 n2 z2 (some c2)], σ, p => (rowAt σ r2 st2).bind fun vs =>
    if o2 = 0 ∧ n2 = 1 ∧ z2 = 2 ∧ c2 = 1 ∧ vs.length = 2 ∧ i = 0 then some (.sl σ.length (0 :: p) 0 1 2 none, σ ++ [.cells (0 :: p) vs]) else none
  | [.arr cs n cl, .i .i64 i, .sl r2 st2 o2 n2 z2 (some c2)], σ, p => (rowAt σ r2 st2).bind fun vs =>
    if cs = [] ∧ n = 0 ∧ cl = true ∧ o2 = 0 ∧ n2 = 1 ∧ z2 = 2 ∧ c2 = 1 ∧ vs.length = 2 ∧ i = 0 then some (.sl σ.length (0 :: p) 0 1 2 none, σ ++ [.cells (0 :: p) vs]) else none
  | _, _, _ => none
/-- slices.Delete of one entry. -/
def pDel : List V → List O → List Nat → Option (V × List O)
  | [.sl r st o n z none, .i .i64 i, .i .i64 j], σ, p => (rowAt σ r st).bind fun cs =>
    if o = 0 ∧ z = 2 ∧ cs.length = n * 2 ∧ 0 ≤ i ∧ i < n ∧ j = i + 1 ∧ n ≤ 1000000 then some (.sl r (1 :: p) 0 (n - 1) 2 none, σ.set r (.cells (1 :: p) (delV i.toNat cs))) else none
  | _, _, _ => none
def pmT (f : Nat) : Option (List V → List O → List Nat → Option (V × List O)) := if f = 88 then some pIns else if f = 90 then some pDel else none
/-- Of entries: how many, their cells. -/
def froz (σ : List O) : V → Option (Nat × List V)
  | .nils => some (0, [])
  | .arr cs n _ => some (n, cs)
  | .sl r st o n es _ => if o = 0 ∧ es = 2 then (rowAt σ r st).bind fun cs => if cs.length = n * 2 then some (n, cs) else none else none
  | _ => none
def hT (t : T V) (v : V) : T V := (((((((t.set 35 .bad).set 36 .bad).set 37 .bad).set 38 .bad).set 39 .bad).set 40 .bad).set 4 v).set 5 (.i .i64 0)
/-- What entry.With answers where all is well. -/
def hWith (p : List Nat) (s : St) : Option St :=
  match s.t.get 0, s.t.get 6, s.t.get 3 with
  | some x, some (.i .i64 i), some (.ptr r st 0) => (froz s.σ x).bind fun (n, cs) => (rowAt s.σ r st).bind fun vs =>
    if s.nt = 41 ∧ cs.length = n * 2 ∧ vs.length = 2 ∧ 0 ≤ i ∧ i ≤ n ∧ n ≤ 1000000 ∧ vs.all V.one = true then
      some ⟨hT s.t (.sl s.σ.length ((s.c + 3) :: p) 0 (n + 1) 2 none), s.nt, s.σ ++ [.cells ((s.c + 3) :: p) (insV i.toNat cs vs)], s.c + 4⟩
    else none
  | _, _, _ => none
def hkT (g id : Nat) : Option (List Nat → St → Option St) := if g = 42 ∧ id = 12 then some hWith else none
def keepT (f : Nat) (p : List Nat) : Bool := [19, 52, 88, 89, 90].contains f || (f == 42 && p == [3]) || (f == 44 && p == [5])
end Go.Am.R1

/- The machine over this seat's program: tables, what is asked of it, facts of types. -/
namespace Go.Am.R1
open Go.Proofs
set_option linter.unusedVariables false
set_option linter.unusedSimpArgs false
def clsT : List (Nat × Nat × List (Nat × Nat)) := [(7, 6, [(2, 3)]), (17, 4, [(1, 2), (7, 8)]), (27, 3, [(31, 2), (31, 3), (31, 6), (31, 7), (31, 10), (31, 11), (31, 14), (31, 15), (31, 18), (31, 19), (31, 22), (31, 23), (31, 26), (31, 27)]), (29, 1, [(2, 4), (2, 7), (5, 7)]), (39, 5, [(14, 20), (15, 20)]), (58, 7, [(4, 8)]), (59, 6, [(6, 9), (6, 12)]), (60, 6, [(11, 6), (11, 8)]), (61, 6, [(9, 3), (9, 5), (9, 7), (11, 5), (11, 7), (13, 7)]), (61, 9, [(7, 3), (7, 5), (9, 5)]), (61, 13, [(5, 3)]), (61, 16, [(9, 3), (9, 5), (9, 7), (11, 5), (11, 7), (13, 7)]), (61, 19, [(7, 3), (7, 5), (9, 5)]), (61, 22, [(5, 3)]), (61, 25, [(5, 3)]), (65, 2, [(5, 8), (6, 8)]), (65, 3, [(5, 8), (6, 8)]), (65, 4, [(11, 14), (12, 14)]), (78, 2, [(24, 22)]), (115, 11, [(8, 5), (8, 7)]), (175, 0, [(8, 12), (8, 13)])]
def clsOf (f r : Nat) : List (Nat × Nat) := match clsT.find? (fun x => x.1 == f && x.2.1 == r) with | some x => x.2.2 | none => []
/-- Functions told by contracts. -/
def primT (f : Nat) : Option (List V → List O → Option V) := if f = 151 then some pIndexByte else if f = 148 then some pCompare else if f = 130 then some pJoin else if f = 126 then some pOverlaps else none
/-- The machine: nothing told but functions that change nothing. -/
noncomputable def cfgA : Cfg := { P := Try.prog, bar := fun f => f == 42, cls := clsOf, keep := keepT, prim := primT }
/-- .. and what is put in between, or taken out. -/
noncomputable def cfgB : Cfg := { P := Try.prog, bar := fun f => f == 42, cls := clsOf, keep := keepT, prim := primT, primM := pmT }
/-- .. and a region that draws its order. -/
noncomputable def cfg : Cfg := { P := Try.prog, bar := fun f => false, cls := clsOf, keep := keepT, prim := primT, primM := pmT, hook := hkT }
set_option maxRecDepth 100000
theorem fnsA : fnsOk cfgA = true := by decide +kernel
theorem fnsB : fnsOk cfgB = true := by decide +kernel
theorem fns : fnsOk cfg = true := by decide +kernel
theorem primAt (C : Cfg) (hP : C.P = Try.prog) : ∀ f g, primT f = some g → PrimAt C f g := by
  intro f g h'
  have hj : ∀ h : pJoin = g, f = 130 → PrimAt C f g := fun h e => by subst e; subst h; exact join_prim hP
  unfold primT at h'
  split at h'
  · rename_i e; subst e; cases h'; exact prim_indexByte (by rw [hP]; exact Try.func151) (by kernel_rfl) (by kernel_rfl) (by kernel_rfl) (by kernel_rfl)
  · split at h'
    · rename_i e; subst e; cases h'; exact prim_compare (by rw [hP]; exact Try.func148) (by kernel_rfl) (by kernel_rfl) (by kernel_rfl) (by kernel_rfl)
    · split at h'
      · rename_i e; subst e; cases h'; exact hj rfl rfl
      · split at h'
        · rename_i e; subst e; cases h'
          exact prim_overlaps (tS := 57) (tR := 4) (e := 66) (size := 2) rfl (by rw [hP]; exact Try.func126) (by kernel_rfl) (by kernel_rfl) (by kernel_rfl) (by kernel_rfl) (by rw [hP]; exact Try.underlying57) (by rw [hP]; exact Try.sizeOf66)
        · cases h'
theorem keepT_no {f : Nat} {p : List Nat} (h : [19, 52, 88, 89, 90, 42, 44].contains f = false) : keepT f p = false := by
  simp only [List.contains_cons, List.contains_nil, Bool.or_false, Bool.or_eq_false_iff, beq_eq_false_iff_ne, ne_eq] at h
  obtain ⟨h1, h2, h3, h4, h5, h6, h7⟩ := h
  simp [keepT, h1, h2, h3, h4, h5, h6, h7]
theorem keepT_yes {f : Nat} {p : List Nat} (h : [19, 52, 88, 89, 90].contains f = true) : keepT f p = true := by
  simp only [keepT, h, Bool.true_or]
theorem kpF {f : Nat} {p : List Nat} (h : [19, 52, 88, 89, 90, 42, 44].contains f = false) : cfg.keep f p = false := keepT_no h
theorem kpT {f : Nat} {p : List Nat} (h : [19, 52, 88, 89, 90].contains f = true) : cfg.keep f p = true := keepT_yes h
theorem kpA {f : Nat} {p : List Nat} (h : [19, 52, 88, 89, 90].contains f = true) : cfgA.keep f p = true := keepT_yes h
theorem kpB {f : Nat} {p : List Nat} (h : [19, 52, 88, 89, 90].contains f = true) : cfgB.keep f p = true := keepT_yes h
theorem primsA : PrimOk cfgA := ⟨primOk_of (primAt cfgA rfl), (fun f g h => by cases h), hook_none fun _ _ => rfl⟩
theorem mixed : cfg.P.follows .mixedOrders = true := by kernel_rfl
theorem sh3 : cfg.shape 3 = .int .i64 := by kernel_rfl
theorem sz3 : cfg.size 3 = some 1 := by kernel_rfl
theorem by3 : cfg.bytes 3 = 8 := by kernel_rfl
theorem ag3 : cfg.isAgg 3 = some false := by kernel_rfl
theorem kn3 : known cfg 3 = true := by kernel_rfl
theorem ze3 : cfg.zero 3 = some (.i .i64 0) := by kernel_rfl
theorem ld3 {σ : List O} {r o : Nat} {st : List Nat} : loadA cfg 3 σ (.ptr r st o) = (rowAt σ r st).bind fun cs => cs[o]? := load_sc ag3
theorem li3 {σ : List O} {cs : List V} : loadA cfg 3 σ (.iptr cs) = cs[0]? := load_ip ag3
theorem sto3 {σ : List O} {r o : Nat} {st : List Nat} {v : V} (hv : v.one = true) : storeA cfg 3 σ (.ptr r st o) v = (rowAt σ r st).bind fun cs => if o < cs.length then some (σ.set r (.cells st (cs.set o v))) else none := store_sc sz3 hv
theorem sh4 : cfg.shape 4 = .other := by kernel_rfl
theorem sz4 : cfg.size 4 = some 1 := by kernel_rfl
theorem by4 : cfg.bytes 4 = 1 := by kernel_rfl
theorem ag4 : cfg.isAgg 4 = some false := by kernel_rfl
theorem kn4 : known cfg 4 = true := by kernel_rfl
theorem ze4 : cfg.zero 4 = some (.b false) := by kernel_rfl
theorem ld4 {σ : List O} {r o : Nat} {st : List Nat} : loadA cfg 4 σ (.ptr r st o) = (rowAt σ r st).bind fun cs => cs[o]? := load_sc ag4
theorem li4 {σ : List O} {cs : List V} : loadA cfg 4 σ (.iptr cs) = cs[0]? := load_ip ag4
theorem sto4 {σ : List O} {r o : Nat} {st : List Nat} {v : V} (hv : v.one = true) : storeA cfg 4 σ (.ptr r st o) v = (rowAt σ r st).bind fun cs => if o < cs.length then some (σ.set r (.cells st (cs.set o v))) else none := store_sc sz4 hv
theorem sh5 : cfg.shape 5 = .int .u8 := by kernel_rfl
theorem sz5 : cfg.size 5 = some 1 := by kernel_rfl
theorem by5 : cfg.bytes 5 = 1 := by kernel_rfl
theorem ag5 : cfg.isAgg 5 = some false := by kernel_rfl
theorem kn5 : known cfg 5 = true := by kernel_rfl
theorem ze5 : cfg.zero 5 = some (.i .u8 0) := by kernel_rfl
theorem ld5 {σ : List O} {r o : Nat} {st : List Nat} : loadA cfg 5 σ (.ptr r st o) = (rowAt σ r st).bind fun cs => cs[o]? := load_sc ag5
theorem li5 {σ : List O} {cs : List V} : loadA cfg 5 σ (.iptr cs) = cs[0]? := load_ip ag5
theorem sto5 {σ : List O} {r o : Nat} {st : List Nat} {v : V} (hv : v.one = true) : storeA cfg 5 σ (.ptr r st o) v = (rowAt σ r st).bind fun cs => if o < cs.length then some (σ.set r (.cells st (cs.set o v))) else none := store_sc sz5 hv
theorem sh9 : cfg.shape 9 = .string := by kernel_rfl
theorem sz9 : cfg.size 9 = some 1 := by kernel_rfl
theorem by9 : cfg.bytes 9 = 16 := by kernel_rfl
theorem ag9 : cfg.isAgg 9 = some false := by kernel_rfl
theorem kn9 : known cfg 9 = true := by kernel_rfl
theorem ze9 : cfg.zero 9 = some (.s .empty) := by kernel_rfl
theorem ld9 {σ : List O} {r o : Nat} {st : List Nat} : loadA cfg 9 σ (.ptr r st o) = (rowAt σ r st).bind fun cs => cs[o]? := load_sc ag9
theorem li9 {σ : List O} {cs : List V} : loadA cfg 9 σ (.iptr cs) = cs[0]? := load_ip ag9
theorem sto9 {σ : List O} {r o : Nat} {st : List Nat} {v : V} (hv : v.one = true) : storeA cfg 9 σ (.ptr r st o) v = (rowAt σ r st).bind fun cs => if o < cs.length then some (σ.set r (.cells st (cs.set o v))) else none := store_sc sz9 hv
theorem sh22 : cfg.shape 22 = .slice 5 := by kernel_rfl
theorem sz22 : cfg.size 22 = some 1 := by kernel_rfl
theorem by22 : cfg.bytes 22 = 24 := by kernel_rfl
theorem ag22 : cfg.isAgg 22 = some false := by kernel_rfl
theorem kn22 : known cfg 22 = true := by kernel_rfl
theorem el22 : cfg.elem 22 = some (5, 1, (.i .u8 0)) := by kernel_rfl
theorem ze22 : cfg.zero 22 = some .nils := by kernel_rfl
theorem ld22 {σ : List O} {r o : Nat} {st : List Nat} : loadA cfg 22 σ (.ptr r st o) = (rowAt σ r st).bind fun cs => cs[o]? := load_sc ag22
theorem li22 {σ : List O} {cs : List V} : loadA cfg 22 σ (.iptr cs) = cs[0]? := load_ip ag22
theorem sto22 {σ : List O} {r o : Nat} {st : List Nat} {v : V} (hv : v.one = true) : storeA cfg 22 σ (.ptr r st o) v = (rowAt σ r st).bind fun cs => if o < cs.length then some (σ.set r (.cells st (cs.set o v))) else none := store_sc sz22 hv
theorem ix22 {r o n j : Nat} {st : List Nat} {cap : Option Nat} {k : IntKind} (h : j < n) : indexAddrA cfg 22 (.sl r st o n 1 cap) (.i k j) = some (.ptr r st (o + j)) := idx_sl sh22 sz5 h
theorem ia22 {n j : Nat} {cs : List V} {cl : Bool} {k : IntKind} (h : j < n) : indexAddrA cfg 22 (.arr cs n cl) (.i k j) = some (.iptr (cs.drop j)) := idx_arr sh22 sz5 h
theorem mk22 {σ : List O} {st : List Nat} {n : Nat} (h : n ≤ 1000000000000) : makeSliceA cfg 22 (.i .i64 n) (.i .i64 n) σ st = some (.sl σ.length st 0 n 1 (some n), σ ++ [.cells st (List.replicate n (.i .u8 0))]) := make_sc el22 by5 (by omega) (by omega) rfl
theorem le22 {σ : List O} {r o n es : Nat} {st : List Nat} {cap : Option Nat} : lenA cfg 22 σ (.sl r st o n es cap) = some (.i .i64 n) := len_sl sh22
theorem lr22 {σ : List O} {n : Nat} {cs : List V} {cl : Bool} : lenA cfg 22 σ (.arr cs n cl) = some (.i .i64 n) := len_arr sh22
theorem ln22 {σ : List O} : lenA cfg 22 σ .nils = some (.i .i64 0) := len_nils sh22
theorem sh25 : cfg.shape 25 = .int .i64 := by kernel_rfl
theorem sz25 : cfg.size 25 = some 1 := by kernel_rfl
theorem by25 : cfg.bytes 25 = 8 := by kernel_rfl
theorem ag25 : cfg.isAgg 25 = some false := by kernel_rfl
theorem kn25 : known cfg 25 = true := by kernel_rfl
theorem ze25 : cfg.zero 25 = some (.i .i64 0) := by kernel_rfl
theorem ld25 {σ : List O} {r o : Nat} {st : List Nat} : loadA cfg 25 σ (.ptr r st o) = (rowAt σ r st).bind fun cs => cs[o]? := load_sc ag25
theorem li25 {σ : List O} {cs : List V} : loadA cfg 25 σ (.iptr cs) = cs[0]? := load_ip ag25
theorem sto25 {σ : List O} {r o : Nat} {st : List Nat} {v : V} (hv : v.one = true) : storeA cfg 25 σ (.ptr r st o) v = (rowAt σ r st).bind fun cs => if o < cs.length then some (σ.set r (.cells st (cs.set o v))) else none := store_sc sz25 hv
theorem sh31 : cfg.shape 31 = .int .u16 := by kernel_rfl
theorem sz31 : cfg.size 31 = some 1 := by kernel_rfl
theorem by31 : cfg.bytes 31 = 2 := by kernel_rfl
theorem ag31 : cfg.isAgg 31 = some false := by kernel_rfl
theorem kn31 : known cfg 31 = true := by kernel_rfl
theorem ze31 : cfg.zero 31 = some (.i .u16 0) := by kernel_rfl
theorem ld31 {σ : List O} {r o : Nat} {st : List Nat} : loadA cfg 31 σ (.ptr r st o) = (rowAt σ r st).bind fun cs => cs[o]? := load_sc ag31
theorem li31 {σ : List O} {cs : List V} : loadA cfg 31 σ (.iptr cs) = cs[0]? := load_ip ag31
theorem sto31 {σ : List O} {r o : Nat} {st : List Nat} {v : V} (hv : v.one = true) : storeA cfg 31 σ (.ptr r st o) v = (rowAt σ r st).bind fun cs => if o < cs.length then some (σ.set r (.cells st (cs.set o v))) else none := store_sc sz31 hv
theorem sh89 : cfg.shape 89 = .slice 4 := by kernel_rfl
theorem sz89 : cfg.size 89 = some 1 := by kernel_rfl
theorem by89 : cfg.bytes 89 = 24 := by kernel_rfl
theorem ag89 : cfg.isAgg 89 = some false := by kernel_rfl
theorem kn89 : known cfg 89 = true := by kernel_rfl
theorem el89 : cfg.elem 89 = some (4, 1, (.b false)) := by kernel_rfl
theorem ze89 : cfg.zero 89 = some .nils := by kernel_rfl
theorem ld89 {σ : List O} {r o : Nat} {st : List Nat} : loadA cfg 89 σ (.ptr r st o) = (rowAt σ r st).bind fun cs => cs[o]? := load_sc ag89
theorem li89 {σ : List O} {cs : List V} : loadA cfg 89 σ (.iptr cs) = cs[0]? := load_ip ag89
theorem sto89 {σ : List O} {r o : Nat} {st : List Nat} {v : V} (hv : v.one = true) : storeA cfg 89 σ (.ptr r st o) v = (rowAt σ r st).bind fun cs => if o < cs.length then some (σ.set r (.cells st (cs.set o v))) else none := store_sc sz89 hv
theorem ix89 {r o n j : Nat} {st : List Nat} {cap : Option Nat} {k : IntKind} (h : j < n) : indexAddrA cfg 89 (.sl r st o n 1 cap) (.i k j) = some (.ptr r st (o + j)) := idx_sl sh89 sz4 h
theorem ia89 {n j : Nat} {cs : List V} {cl : Bool} {k : IntKind} (h : j < n) : indexAddrA cfg 89 (.arr cs n cl) (.i k j) = some (.iptr (cs.drop j)) := idx_arr sh89 sz4 h
theorem mk89 {σ : List O} {st : List Nat} {n : Nat} (h : n ≤ 1000000000000) : makeSliceA cfg 89 (.i .i64 n) (.i .i64 n) σ st = some (.sl σ.length st 0 n 1 (some n), σ ++ [.cells st (List.replicate n (.b false))]) := make_sc el89 by4 (by omega) (by omega) rfl
theorem le89 {σ : List O} {r o n es : Nat} {st : List Nat} {cap : Option Nat} : lenA cfg 89 σ (.sl r st o n es cap) = some (.i .i64 n) := len_sl sh89
theorem lr89 {σ : List O} {n : Nat} {cs : List V} {cl : Bool} : lenA cfg 89 σ (.arr cs n cl) = some (.i .i64 n) := len_arr sh89
theorem ln89 {σ : List O} : lenA cfg 89 σ .nils = some (.i .i64 0) := len_nils sh89
theorem sh138 : cfg.shape 138 = .slice 153 := by kernel_rfl
theorem sz138 : cfg.size 138 = some 1 := by kernel_rfl
theorem by138 : cfg.bytes 138 = 24 := by kernel_rfl
theorem ag138 : cfg.isAgg 138 = some false := by kernel_rfl
theorem kn138 : known cfg 138 = true := by kernel_rfl
theorem el138 : cfg.elem 138 = some (153, 128, (.agg [(.i .u8 0), (.i .u8 0), (.i .u8 0), (.i .u8 0), (.i .u8 0), (.i .u8 0), (.i .u8 0), (.i .u8 0), (.i .u8 0), (.i .u8 0), (.i .u8 0), (.i .u8 0), (.i .u8 0), (.i .u8 0), (.i .u8 0), (.i .u8 0), (.i .u8 0), (.i .u8 0), (.i .u8 0), (.i .u8 0), (.i .u8 0), (.i .u8 0), (.i .u8 0), (.i .u8 0), (.i .u8 0), (.i .u8 0), (.i .u8 0), (.i .u8 0), (.i .u8 0), (.i .u8 0), (.i .u8 0), (.i .u8 0), (.i .u8 0), (.i .u8 0), (.i .u8 0), (.i .u8 0), (.i .u8 0), (.i .u8 0), (.i .u8 0), (.i .u8 0), (.i .u8 0), (.i .u8 0), (.i .u8 0), (.i .u8 0), (.i .u8 0), (.i .u8 0), (.i .u8 0), (.i .u8 0), (.i .u8 0), (.i .u8 0), (.i .u8 0), (.i .u8 0), (.i .u8 0), (.i .u8 0), (.i .u8 0), (.i .u8 0), (.i .u8 0), (.i .u8 0), (.i .u8 0), (.i .u8 0), (.i .u8 0), (.i .u8 0), (.i .u8 0), (.i .u8 0), (.i .u8 0), (.i .u8 0), (.i .u8 0), (.i .u8 0), (.i .u8 0), (.i .u8 0), (.i .u8 0), (.i .u8 0), (.i .u8 0), (.i .u8 0), (.i .u8 0), (.i .u8 0), (.i .u8 0), (.i .u8 0), (.i .u8 0), (.i .u8 0), (.i .u8 0), (.i .u8 0), (.i .u8 0), (.i .u8 0), (.i .u8 0), (.i .u8 0), (.i .u8 0), (.i .u8 0), (.i .u8 0), (.i .u8 0), (.i .u8 0), (.i .u8 0), (.i .u8 0), (.i .u8 0), (.i .u8 0), (.i .u8 0), (.i .u8 0), (.i .u8 0), (.i .u8 0), (.i .u8 0), (.i .u8 0), (.i .u8 0), (.i .u8 0), (.i .u8 0), (.i .u8 0), (.i .u8 0), (.i .u8 0), (.i .u8 0), (.i .u8 0), (.i .u8 0), (.i .u8 0), (.i .u8 0), (.i .u8 0), (.i .u8 0), (.i .u8 0), (.i .u8 0), (.i .u8 0), (.i .u8 0), (.i .u8 0), (.i .u8 0), (.i .u8 0), (.i .u8 0), (.i .u8 0), (.i .u8 0), (.i .u8 0), (.i .u8 0), (.i .u8 0), (.i .u8 0)])) := by kernel_rfl
theorem ze138 : cfg.zero 138 = some .nils := by kernel_rfl
theorem ld138 {σ : List O} {r o : Nat} {st : List Nat} : loadA cfg 138 σ (.ptr r st o) = (rowAt σ r st).bind fun cs => cs[o]? := load_sc ag138
theorem li138 {σ : List O} {cs : List V} : loadA cfg 138 σ (.iptr cs) = cs[0]? := load_ip ag138
theorem sto138 {σ : List O} {r o : Nat} {st : List Nat} {v : V} (hv : v.one = true) : storeA cfg 138 σ (.ptr r st o) v = (rowAt σ r st).bind fun cs => if o < cs.length then some (σ.set r (.cells st (cs.set o v))) else none := store_sc sz138 hv
theorem le138 {σ : List O} {r o n es : Nat} {st : List Nat} {cap : Option Nat} : lenA cfg 138 σ (.sl r st o n es cap) = some (.i .i64 n) := len_sl sh138
theorem lr138 {σ : List O} {n : Nat} {cs : List V} {cl : Bool} : lenA cfg 138 σ (.arr cs n cl) = some (.i .i64 n) := len_arr sh138
theorem ln138 {σ : List O} : lenA cfg 138 σ .nils = some (.i .i64 0) := len_nils sh138
theorem sh153 : cfg.shape 153 = .array 128 5 := by kernel_rfl
theorem sz153 : cfg.size 153 = some 128 := by kernel_rfl
theorem by153 : cfg.bytes 153 = 128 := by kernel_rfl
theorem ag153 : cfg.isAgg 153 = some true := by kernel_rfl
theorem kn153 : known cfg 153 = true := by kernel_rfl
theorem ze153 : cfg.zero 153 = some (.agg [(.i .u8 0), (.i .u8 0), (.i .u8 0), (.i .u8 0), (.i .u8 0), (.i .u8 0), (.i .u8 0), (.i .u8 0), (.i .u8 0), (.i .u8 0), (.i .u8 0), (.i .u8 0), (.i .u8 0), (.i .u8 0), (.i .u8 0), (.i .u8 0), (.i .u8 0), (.i .u8 0), (.i .u8 0), (.i .u8 0), (.i .u8 0), (.i .u8 0), (.i .u8 0), (.i .u8 0), (.i .u8 0), (.i .u8 0), (.i .u8 0), (.i .u8 0), (.i .u8 0), (.i .u8 0), (.i .u8 0), (.i .u8 0), (.i .u8 0), (.i .u8 0), (.i .u8 0), (.i .u8 0), (.i .u8 0), (.i .u8 0), (.i .u8 0), (.i .u8 0), (.i .u8 0), (.i .u8 0), (.i .u8 0), (.i .u8 0), (.i .u8 0), (.i .u8 0), (.i .u8 0), (.i .u8 0), (.i .u8 0), (.i .u8 0), (.i .u8 0), (.i .u8 0), (.i .u8 0), (.i .u8 0), (.i .u8 0), (.i .u8 0), (.i .u8 0), (.i .u8 0), (.i .u8 0), (.i .u8 0), (.i .u8 0), (.i .u8 0), (.i .u8 0), (.i .u8 0), (.i .u8 0), (.i .u8 0), (.i .u8 0), (.i .u8 0), (.i .u8 0), (.i .u8 0), (.i .u8 0), (.i .u8 0), (.i .u8 0), (.i .u8 0), (.i .u8 0), (.i .u8 0), (.i .u8 0), (.i .u8 0), (.i .u8 0), (.i .u8 0), (.i .u8 0), (.i .u8 0), (.i .u8 0), (.i .u8 0), (.i .u8 0), (.i .u8 0), (.i .u8 0), (.i .u8 0), (.i .u8 0), (.i .u8 0), (.i .u8 0), (.i .u8 0), (.i .u8 0), (.i .u8 0), (.i .u8 0), (.i .u8 0), (.i .u8 0), (.i .u8 0), (.i .u8 0), (.i .u8 0), (.i .u8 0), (.i .u8 0), (.i .u8 0), (.i .u8 0), (.i .u8 0), (.i .u8 0), (.i .u8 0), (.i .u8 0), (.i .u8 0), (.i .u8 0), (.i .u8 0), (.i .u8 0), (.i .u8 0), (.i .u8 0), (.i .u8 0), (.i .u8 0), (.i .u8 0), (.i .u8 0), (.i .u8 0), (.i .u8 0), (.i .u8 0), (.i .u8 0), (.i .u8 0), (.i .u8 0), (.i .u8 0), (.i .u8 0), (.i .u8 0), (.i .u8 0)]) := by kernel_rfl
theorem un4 : cfg.P.underlying 4 = some .bool := Try.underlying4
end Go.Am.R1

/- More facts of types. -/
namespace Go.Am.R1
open Go.Proofs
set_option maxRecDepth 100000
set_option linter.unusedVariables false
set_option linter.unusedSimpArgs false
theorem sh34 : cfg.shape 34 = .other := by kernel_rfl
theorem sz34 : cfg.size 34 = some 9 := by kernel_rfl
theorem by34 : cfg.bytes 34 = 96 := by kernel_rfl
theorem ag34 : cfg.isAgg 34 = some true := by kernel_rfl
theorem kn34 : known cfg 34 = true := by kernel_rfl
theorem ze34 : cfg.zero 34 = some (.agg [(.i .i64 0), (.i .i64 0), (.s .empty), (.i .i64 0), (.s .empty), (.i .i64 0), (.i .i64 0), (.i .i64 0), (.s .empty)]) := by kernel_rfl
theorem pl34 : cfg.places 34 = some [(0, 1), (1, 1), (2, 1), (3, 1), (4, 1), (5, 1), (6, 1), (7, 1), (8, 1)] := by kernel_rfl
theorem fi34x0 : cfg.field 34 0 = some (0, 3) := by kernel_rfl
theorem fi34x1 : cfg.field 34 1 = some (1, 3) := by kernel_rfl
theorem fi34x2 : cfg.field 34 2 = some (2, 9) := by kernel_rfl
theorem fi34x3 : cfg.field 34 3 = some (3, 3) := by kernel_rfl
theorem fi34x4 : cfg.field 34 4 = some (4, 9) := by kernel_rfl
theorem fi34x5 : cfg.field 34 5 = some (5, 3) := by kernel_rfl
theorem fi34x6 : cfg.field 34 6 = some (6, 3) := by kernel_rfl
theorem fi34x7 : cfg.field 34 7 = some (7, 3) := by kernel_rfl
theorem fi34x8 : cfg.field 34 8 = some (8, 9) := by kernel_rfl
theorem sh93 : cfg.shape 93 = .other := by kernel_rfl
theorem sz93 : cfg.size 93 = some 1 := by kernel_rfl
theorem by93 : cfg.bytes 93 = 8 := by kernel_rfl
theorem ag93 : cfg.isAgg 93 = some false := by kernel_rfl
theorem kn93 : known cfg 93 = true := by kernel_rfl
theorem ze93 : cfg.zero 93 = some .nilp := by kernel_rfl
theorem ld93 {σ : List O} {r o : Nat} {st : List Nat} : loadA cfg 93 σ (.ptr r st o) = (rowAt σ r st).bind fun cs => cs[o]? := load_sc ag93
theorem li93 {σ : List O} {cs : List V} : loadA cfg 93 σ (.iptr cs) = cs[0]? := load_ip ag93
theorem sto93 {σ : List O} {r o : Nat} {st : List Nat} {v : V} (hv : v.one = true) : storeA cfg 93 σ (.ptr r st o) v = (rowAt σ r st).bind fun cs => if o < cs.length then some (σ.set r (.cells st (cs.set o v))) else none := store_sc sz93 hv
theorem sh94 : cfg.shape 94 = .array 5 93 := by kernel_rfl
theorem sz94 : cfg.size 94 = some 5 := by kernel_rfl
theorem by94 : cfg.bytes 94 = 40 := by kernel_rfl
theorem ag94 : cfg.isAgg 94 = some true := by kernel_rfl
theorem kn94 : known cfg 94 = true := by kernel_rfl
theorem ze94 : cfg.zero 94 = some (.agg [.nilp, .nilp, .nilp, .nilp, .nilp]) := by kernel_rfl
theorem sh98 : cfg.shape 98 = .other := by kernel_rfl
theorem sz98 : cfg.size 98 = some 2 := by kernel_rfl
theorem by98 : cfg.bytes 98 = 32 := by kernel_rfl
theorem ag98 : cfg.isAgg 98 = some true := by kernel_rfl
theorem kn98 : known cfg 98 = true := by kernel_rfl
theorem ze98 : cfg.zero 98 = some (.agg [.nils, (.b false)]) := by kernel_rfl
theorem pl98 : cfg.places 98 = some [(0, 1), (1, 1)] := by kernel_rfl
theorem fi98x0 : cfg.field 98 0 = some (0, 22) := by kernel_rfl
theorem fi98x1 : cfg.field 98 1 = some (1, 4) := by kernel_rfl
theorem sh102 : cfg.shape 102 = .array 5 3 := by kernel_rfl
theorem sz102 : cfg.size 102 = some 5 := by kernel_rfl
theorem by102 : cfg.bytes 102 = 40 := by kernel_rfl
theorem ag102 : cfg.isAgg 102 = some true := by kernel_rfl
theorem kn102 : known cfg 102 = true := by kernel_rfl
theorem ze102 : cfg.zero 102 = some (.agg [(.i .i64 0), (.i .i64 0), (.i .i64 0), (.i .i64 0), (.i .i64 0)]) := by kernel_rfl
theorem sh104 : cfg.shape 104 = .array 2 9 := by kernel_rfl
theorem sz104 : cfg.size 104 = some 2 := by kernel_rfl
theorem by104 : cfg.bytes 104 = 32 := by kernel_rfl
theorem ag104 : cfg.isAgg 104 = some true := by kernel_rfl
theorem kn104 : known cfg 104 = true := by kernel_rfl
theorem ze104 : cfg.zero 104 = some (.agg [(.s .empty), (.s .empty)]) := by kernel_rfl
theorem sh127 : cfg.shape 127 = .other := by kernel_rfl
theorem sz127 : cfg.size 127 = some 7 := by kernel_rfl
theorem by127 : cfg.bytes 127 = 16 := by kernel_rfl
theorem ag127 : cfg.isAgg 127 = some true := by kernel_rfl
theorem kn127 : known cfg 127 = true := by kernel_rfl
theorem ze127 : cfg.zero 127 = some (.agg [(.b false), (.b false), (.b false), (.b false), (.b false), (.b false), (.i .i64 0)]) := by kernel_rfl
theorem pl127 : cfg.places 127 = some [(0, 1), (1, 1), (2, 1), (3, 1), (4, 1), (5, 1), (6, 1)] := by kernel_rfl
theorem fi127x0 : cfg.field 127 0 = some (0, 4) := by kernel_rfl
theorem fi127x1 : cfg.field 127 1 = some (1, 4) := by kernel_rfl
theorem fi127x2 : cfg.field 127 2 = some (2, 4) := by kernel_rfl
theorem fi127x3 : cfg.field 127 3 = some (3, 4) := by kernel_rfl
theorem fi127x4 : cfg.field 127 4 = some (4, 4) := by kernel_rfl
theorem fi127x5 : cfg.field 127 5 = some (5, 4) := by kernel_rfl
theorem fi127x6 : cfg.field 127 6 = some (6, 3) := by kernel_rfl
theorem sh142 : cfg.shape 142 = .int .u64 := by kernel_rfl
theorem sz142 : cfg.size 142 = some 1 := by kernel_rfl
theorem by142 : cfg.bytes 142 = 8 := by kernel_rfl
theorem ag142 : cfg.isAgg 142 = some false := by kernel_rfl
theorem kn142 : known cfg 142 = true := by kernel_rfl
theorem ze142 : cfg.zero 142 = some (.i .u64 0) := by kernel_rfl
theorem ld142 {σ : List O} {r o : Nat} {st : List Nat} : loadA cfg 142 σ (.ptr r st o) = (rowAt σ r st).bind fun cs => cs[o]? := load_sc ag142
theorem li142 {σ : List O} {cs : List V} : loadA cfg 142 σ (.iptr cs) = cs[0]? := load_ip ag142
theorem sto142 {σ : List O} {r o : Nat} {st : List Nat} {v : V} (hv : v.one = true) : storeA cfg 142 σ (.ptr r st o) v = (rowAt σ r st).bind fun cs => if o < cs.length then some (σ.set r (.cells st (cs.set o v))) else none := store_sc sz142 hv
end Go.Am.R1

/- More facts of types. -/
namespace Go.Am.R1
open Go.Proofs
set_option maxRecDepth 100000
set_option linter.unusedVariables false
set_option linter.unusedSimpArgs false
theorem fk34 : flat cfg 20 34 = some ([(.i .i64), (.i .i64)] ++ [.s] ++ [(.i .i64)] ++ [.s] ++ [(.i .i64), (.i .i64), (.i .i64)] ++ [.s] : List Fk) := by kernel_rfl
theorem sh41 : cfg.shape 41 = .slice 155 := by kernel_rfl
theorem sz41 : cfg.size 41 = some 1 := by kernel_rfl
theorem by41 : cfg.bytes 41 = 24 := by kernel_rfl
theorem ag41 : cfg.isAgg 41 = some false := by kernel_rfl
theorem kn41 : known cfg 41 = true := by kernel_rfl
theorem el41 : cfg.elem 41 = some (155, 130, (.agg [(.i .u8 0), (.i .u8 0), (.i .u8 0), (.i .u8 0), (.i .u8 0), (.i .u8 0), (.i .u8 0), (.i .u8 0), (.i .u8 0), (.i .u8 0), (.i .u8 0), (.i .u8 0), (.i .u8 0), (.i .u8 0), (.i .u8 0), (.i .u8 0), (.i .u8 0), (.i .u8 0), (.i .u8 0), (.i .u8 0), (.i .u8 0), (.i .u8 0), (.i .u8 0), (.i .u8 0), (.i .u8 0), (.i .u8 0), (.i .u8 0), (.i .u8 0), (.i .u8 0), (.i .u8 0), (.i .u8 0), (.i .u8 0), (.i .u8 0), (.i .u8 0), (.i .u8 0), (.i .u8 0), (.i .u8 0), (.i .u8 0), (.i .u8 0), (.i .u8 0), (.i .u8 0), (.i .u8 0), (.i .u8 0), (.i .u8 0), (.i .u8 0), (.i .u8 0), (.i .u8 0), (.i .u8 0), (.i .u8 0), (.i .u8 0), (.i .u8 0), (.i .u8 0), (.i .u8 0), (.i .u8 0), (.i .u8 0), (.i .u8 0), (.i .u8 0), (.i .u8 0), (.i .u8 0), (.i .u8 0), (.i .u8 0), (.i .u8 0), (.i .u8 0), (.i .u8 0), (.i .u8 0), (.i .u8 0), (.i .u8 0), (.i .u8 0), (.i .u8 0), (.i .u8 0), (.i .u8 0), (.i .u8 0), (.i .u8 0), (.i .u8 0), (.i .u8 0), (.i .u8 0), (.i .u8 0), (.i .u8 0), (.i .u8 0), (.i .u8 0), (.i .u8 0), (.i .u8 0), (.i .u8 0), (.i .u8 0), (.i .u8 0), (.i .u8 0), (.i .u8 0), (.i .u8 0), (.i .u8 0), (.i .u8 0), (.i .u8 0), (.i .u8 0), (.i .u8 0), (.i .u8 0), (.i .u8 0), (.i .u8 0), (.i .u8 0), (.i .u8 0), (.i .u8 0), (.i .u8 0), (.i .u8 0), (.i .u8 0), (.i .u8 0), (.i .u8 0), (.i .u8 0), (.i .u8 0), (.i .u8 0), (.i .u8 0), (.i .u8 0), (.i .u8 0), (.i .u8 0), (.i .u8 0), (.i .u8 0), (.i .u8 0), (.i .u8 0), (.i .u8 0), (.i .u8 0), (.i .u8 0), (.i .u8 0), (.i .u8 0), (.i .u8 0), (.i .u8 0), (.i .u8 0), (.i .u8 0), (.i .u8 0), (.i .u8 0), (.i .u8 0), (.i .u8 0), (.b false), (.b false)])) := by kernel_rfl
theorem ze41 : cfg.zero 41 = some .nils := by kernel_rfl
theorem sh42 : cfg.shape 42 = .slice 157 := by kernel_rfl
theorem sz42 : cfg.size 42 = some 1 := by kernel_rfl
theorem by42 : cfg.bytes 42 = 24 := by kernel_rfl
theorem ag42 : cfg.isAgg 42 = some false := by kernel_rfl
theorem kn42 : known cfg 42 = true := by kernel_rfl
theorem el42 : cfg.elem 42 = some (157, 129, (.agg [(.i .i64 0), (.i .u8 0), (.i .u8 0), (.i .u8 0), (.i .u8 0), (.i .u8 0), (.i .u8 0), (.i .u8 0), (.i .u8 0), (.i .u8 0), (.i .u8 0), (.i .u8 0), (.i .u8 0), (.i .u8 0), (.i .u8 0), (.i .u8 0), (.i .u8 0), (.i .u8 0), (.i .u8 0), (.i .u8 0), (.i .u8 0), (.i .u8 0), (.i .u8 0), (.i .u8 0), (.i .u8 0), (.i .u8 0), (.i .u8 0), (.i .u8 0), (.i .u8 0), (.i .u8 0), (.i .u8 0), (.i .u8 0), (.i .u8 0), (.i .u8 0), (.i .u8 0), (.i .u8 0), (.i .u8 0), (.i .u8 0), (.i .u8 0), (.i .u8 0), (.i .u8 0), (.i .u8 0), (.i .u8 0), (.i .u8 0), (.i .u8 0), (.i .u8 0), (.i .u8 0), (.i .u8 0), (.i .u8 0), (.i .u8 0), (.i .u8 0), (.i .u8 0), (.i .u8 0), (.i .u8 0), (.i .u8 0), (.i .u8 0), (.i .u8 0), (.i .u8 0), (.i .u8 0), (.i .u8 0), (.i .u8 0), (.i .u8 0), (.i .u8 0), (.i .u8 0), (.i .u8 0), (.i .u8 0), (.i .u8 0), (.i .u8 0), (.i .u8 0), (.i .u8 0), (.i .u8 0), (.i .u8 0), (.i .u8 0), (.i .u8 0), (.i .u8 0), (.i .u8 0), (.i .u8 0), (.i .u8 0), (.i .u8 0), (.i .u8 0), (.i .u8 0), (.i .u8 0), (.i .u8 0), (.i .u8 0), (.i .u8 0), (.i .u8 0), (.i .u8 0), (.i .u8 0), (.i .u8 0), (.i .u8 0), (.i .u8 0), (.i .u8 0), (.i .u8 0), (.i .u8 0), (.i .u8 0), (.i .u8 0), (.i .u8 0), (.i .u8 0), (.i .u8 0), (.i .u8 0), (.i .u8 0), (.i .u8 0), (.i .u8 0), (.i .u8 0), (.i .u8 0), (.i .u8 0), (.i .u8 0), (.i .u8 0), (.i .u8 0), (.i .u8 0), (.i .u8 0), (.i .u8 0), (.i .u8 0), (.i .u8 0), (.i .u8 0), (.i .u8 0), (.i .u8 0), (.i .u8 0), (.i .u8 0), (.i .u8 0), (.i .u8 0), (.i .u8 0), (.i .u8 0), (.i .u8 0), (.i .u8 0), (.i .u8 0), (.i .u8 0), (.i .u8 0), (.i .u8 0)])) := by kernel_rfl
theorem ze42 : cfg.zero 42 = some .nils := by kernel_rfl
theorem sh44 : cfg.shape 44 = .other := by kernel_rfl
theorem sz44 : cfg.size 44 = some 4 := by kernel_rfl
theorem by44 : cfg.bytes 44 = 64 := by kernel_rfl
theorem ag44 : cfg.isAgg 44 = some true := by kernel_rfl
theorem kn44 : known cfg 44 = true := by kernel_rfl
theorem ze44 : cfg.zero 44 = some (.agg [.nils, .nils, (.i .i64 0), (.b false)]) := by kernel_rfl
theorem pl44 : cfg.places 44 = some [(0, 1), (1, 1), (2, 1), (3, 1)] := by kernel_rfl
theorem sh45 : cfg.shape 45 = .slice 159 := by kernel_rfl
theorem sz45 : cfg.size 45 = some 1 := by kernel_rfl
theorem by45 : cfg.bytes 45 = 24 := by kernel_rfl
theorem ag45 : cfg.isAgg 45 = some false := by kernel_rfl
theorem kn45 : known cfg 45 = true := by kernel_rfl
theorem el45 : cfg.elem 45 = some (159, 2, (.agg [(.i .i64 0), (.i .i64 0)])) := by kernel_rfl
theorem ze45 : cfg.zero 45 = some .nils := by kernel_rfl
theorem sh47 : cfg.shape 47 = .other := by kernel_rfl
theorem sz47 : cfg.size 47 = some 2 := by kernel_rfl
theorem by47 : cfg.bytes 47 = 32 := by kernel_rfl
theorem ag47 : cfg.isAgg 47 = some true := by kernel_rfl
theorem kn47 : known cfg 47 = true := by kernel_rfl
theorem ze47 : cfg.zero 47 = some (.agg [(.i .i64 0), .nils]) := by kernel_rfl
theorem pl47 : cfg.places 47 = some [(0, 1), (1, 1)] := by kernel_rfl
theorem sh48 : cfg.shape 48 = .array 2 3 := by kernel_rfl
theorem sz48 : cfg.size 48 = some 2 := by kernel_rfl
theorem by48 : cfg.bytes 48 = 16 := by kernel_rfl
theorem ag48 : cfg.isAgg 48 = some true := by kernel_rfl
theorem kn48 : known cfg 48 = true := by kernel_rfl
theorem ze48 : cfg.zero 48 = some (.agg [(.i .i64 0), (.i .i64 0)]) := by kernel_rfl
theorem fk48 : flat cfg 20 48 = some ([(.i .i64), (.i .i64)] : List Fk) := by kernel_rfl
theorem sh50 : cfg.shape 50 = .other := by kernel_rfl
theorem sz50 : cfg.size 50 = some 4 := by kernel_rfl
theorem by50 : cfg.bytes 50 = 48 := by kernel_rfl
theorem ag50 : cfg.isAgg 50 = some true := by kernel_rfl
theorem kn50 : known cfg 50 = true := by kernel_rfl
theorem ze50 : cfg.zero 50 = some (.agg [(.i .i64 0), (.i .i64 0), (.i .i64 0), .nils]) := by kernel_rfl
theorem pl50 : cfg.places 50 = some [(0, 2), (2, 1), (3, 1)] := by kernel_rfl
theorem sh52 : cfg.shape 52 = .other := by kernel_rfl
theorem sz52 : cfg.size 52 = some 10 := by kernel_rfl
theorem by52 : cfg.bytes 52 = 144 := by kernel_rfl
theorem ag52 : cfg.isAgg 52 = some true := by kernel_rfl
theorem kn52 : known cfg 52 = true := by kernel_rfl
theorem ze52 : cfg.zero 52 = some (.agg [.nils, .nils, (.i .i64 0), (.b false), (.i .i64 0), .nils, (.i .i64 0), (.i .i64 0), (.i .i64 0), .nils]) := by kernel_rfl
theorem pl52 : cfg.places 52 = some [(0, 4), (4, 2), (6, 4)] := by kernel_rfl
theorem sh57 : cfg.shape 57 = .slice 66 := by kernel_rfl
theorem sz57 : cfg.size 57 = some 1 := by kernel_rfl
theorem by57 : cfg.bytes 57 = 24 := by kernel_rfl
theorem ag57 : cfg.isAgg 57 = some false := by kernel_rfl
theorem kn57 : known cfg 57 = true := by kernel_rfl
theorem el57 : cfg.elem 57 = some (66, 2, (.agg [(.s .empty), (.i .i64 0)])) := by kernel_rfl
theorem ze57 : cfg.zero 57 = some .nils := by kernel_rfl
theorem sh66 : cfg.shape 66 = .other := by kernel_rfl
theorem sz66 : cfg.size 66 = some 2 := by kernel_rfl
theorem by66 : cfg.bytes 66 = 24 := by kernel_rfl
theorem ag66 : cfg.isAgg 66 = some true := by kernel_rfl
theorem kn66 : known cfg 66 = true := by kernel_rfl
theorem ze66 : cfg.zero 66 = some (.agg [(.s .empty), (.i .i64 0)]) := by kernel_rfl
theorem fk66 : flat cfg 20 66 = some ([.s] ++ [(.i .i64)] : List Fk) := by kernel_rfl
theorem pl66 : cfg.places 66 = some [(0, 1), (1, 1)] := by kernel_rfl
theorem sh72 : cfg.shape 72 = .slice 9 := by kernel_rfl
theorem sz72 : cfg.size 72 = some 1 := by kernel_rfl
theorem by72 : cfg.bytes 72 = 24 := by kernel_rfl
theorem ag72 : cfg.isAgg 72 = some false := by kernel_rfl
theorem kn72 : known cfg 72 = true := by kernel_rfl
theorem el72 : cfg.elem 72 = some (9, 1, (.s .empty)) := by kernel_rfl
theorem ze72 : cfg.zero 72 = some .nils := by kernel_rfl
theorem sh85 : cfg.shape 85 = .slice 3 := by kernel_rfl
theorem sz85 : cfg.size 85 = some 1 := by kernel_rfl
theorem by85 : cfg.bytes 85 = 24 := by kernel_rfl
theorem ag85 : cfg.isAgg 85 = some false := by kernel_rfl
theorem kn85 : known cfg 85 = true := by kernel_rfl
theorem el85 : cfg.elem 85 = some (3, 1, (.i .i64 0)) := by kernel_rfl
theorem ze85 : cfg.zero 85 = some .nils := by kernel_rfl
theorem fk102 : flat cfg 20 102 = some (List.replicate 5 (.i .i64) : List Fk) := by kernel_rfl
theorem fk104 : flat cfg 20 104 = some ([.s, .s] : List Fk) := by kernel_rfl
theorem fk127 : flat cfg 20 127 = some (List.replicate 6 .b ++ [(.i .i64)] : List Fk) := by kernel_rfl
theorem sh134 : cfg.shape 134 = .array 3 3 := by kernel_rfl
theorem sz134 : cfg.size 134 = some 3 := by kernel_rfl
theorem by134 : cfg.bytes 134 = 24 := by kernel_rfl
theorem ag134 : cfg.isAgg 134 = some true := by kernel_rfl
theorem kn134 : known cfg 134 = true := by kernel_rfl
theorem ze134 : cfg.zero 134 = some (.agg [(.i .i64 0), (.i .i64 0), (.i .i64 0)]) := by kernel_rfl
theorem fk134 : flat cfg 20 134 = some ([(.i .i64), (.i .i64), (.i .i64)] : List Fk) := by kernel_rfl
theorem sh143 : cfg.shape 143 = .int .u64 := by kernel_rfl
theorem sz143 : cfg.size 143 = some 1 := by kernel_rfl
theorem by143 : cfg.bytes 143 = 8 := by kernel_rfl
theorem ag143 : cfg.isAgg 143 = some false := by kernel_rfl
theorem kn143 : known cfg 143 = true := by kernel_rfl
theorem ze143 : cfg.zero 143 = some (.i .u64 0) := by kernel_rfl
theorem sh145 : cfg.shape 145 = .other := by kernel_rfl
theorem sz145 : cfg.size 145 = some 6 := by kernel_rfl
theorem by145 : cfg.bytes 145 = 48 := by kernel_rfl
theorem ag145 : cfg.isAgg 145 = some true := by kernel_rfl
theorem kn145 : known cfg 145 = true := by kernel_rfl
theorem ze145 : cfg.zero 145 = some (.agg [(.i .i64 0), (.i .i64 0), (.i .i64 0), (.i .i64 0), (.i .i64 0), (.i .i64 0)]) := by kernel_rfl
theorem fk145 : flat cfg 20 145 = some (List.replicate 6 (.i .i64) : List Fk) := by kernel_rfl
theorem pl145 : cfg.places 145 = some [(0, 1), (1, 1), (2, 1), (3, 1), (4, 1), (5, 1)] := by kernel_rfl
theorem fk153 : flat cfg 20 153 = some (List.replicate 128 (.i .u8) : List Fk) := by kernel_rfl
theorem sh155 : cfg.shape 155 = .other := by kernel_rfl
theorem sz155 : cfg.size 155 = some 130 := by kernel_rfl
theorem by155 : cfg.bytes 155 = 130 := by kernel_rfl
theorem ag155 : cfg.isAgg 155 = some true := by kernel_rfl
theorem kn155 : known cfg 155 = true := by kernel_rfl
theorem ze155 : cfg.zero 155 = some (.agg [(.i .u8 0), (.i .u8 0), (.i .u8 0), (.i .u8 0), (.i .u8 0), (.i .u8 0), (.i .u8 0), (.i .u8 0), (.i .u8 0), (.i .u8 0), (.i .u8 0), (.i .u8 0), (.i .u8 0), (.i .u8 0), (.i .u8 0), (.i .u8 0), (.i .u8 0), (.i .u8 0), (.i .u8 0), (.i .u8 0), (.i .u8 0), (.i .u8 0), (.i .u8 0), (.i .u8 0), (.i .u8 0), (.i .u8 0), (.i .u8 0), (.i .u8 0), (.i .u8 0), (.i .u8 0), (.i .u8 0), (.i .u8 0), (.i .u8 0), (.i .u8 0), (.i .u8 0), (.i .u8 0), (.i .u8 0), (.i .u8 0), (.i .u8 0), (.i .u8 0), (.i .u8 0), (.i .u8 0), (.i .u8 0), (.i .u8 0), (.i .u8 0), (.i .u8 0), (.i .u8 0), (.i .u8 0), (.i .u8 0), (.i .u8 0), (.i .u8 0), (.i .u8 0), (.i .u8 0), (.i .u8 0), (.i .u8 0), (.i .u8 0), (.i .u8 0), (.i .u8 0), (.i .u8 0), (.i .u8 0), (.i .u8 0), (.i .u8 0), (.i .u8 0), (.i .u8 0), (.i .u8 0), (.i .u8 0), (.i .u8 0), (.i .u8 0), (.i .u8 0), (.i .u8 0), (.i .u8 0), (.i .u8 0), (.i .u8 0), (.i .u8 0), (.i .u8 0), (.i .u8 0), (.i .u8 0), (.i .u8 0), (.i .u8 0), (.i .u8 0), (.i .u8 0), (.i .u8 0), (.i .u8 0), (.i .u8 0), (.i .u8 0), (.i .u8 0), (.i .u8 0), (.i .u8 0), (.i .u8 0), (.i .u8 0), (.i .u8 0), (.i .u8 0), (.i .u8 0), (.i .u8 0), (.i .u8 0), (.i .u8 0), (.i .u8 0), (.i .u8 0), (.i .u8 0), (.i .u8 0), (.i .u8 0), (.i .u8 0), (.i .u8 0), (.i .u8 0), (.i .u8 0), (.i .u8 0), (.i .u8 0), (.i .u8 0), (.i .u8 0), (.i .u8 0), (.i .u8 0), (.i .u8 0), (.i .u8 0), (.i .u8 0), (.i .u8 0), (.i .u8 0), (.i .u8 0), (.i .u8 0), (.i .u8 0), (.i .u8 0), (.i .u8 0), (.i .u8 0), (.i .u8 0), (.i .u8 0), (.i .u8 0), (.i .u8 0), (.i .u8 0), (.i .u8 0), (.b false), (.b false)]) := by kernel_rfl
theorem fk155 : flat cfg 20 155 = some (List.replicate 128 (.i .u8) ++ [.b, .b] : List Fk) := by kernel_rfl
theorem pl155 : cfg.places 155 = some [(0, 128), (128, 1), (129, 1)] := by kernel_rfl
theorem sh157 : cfg.shape 157 = .other := by kernel_rfl
theorem sz157 : cfg.size 157 = some 129 := by kernel_rfl
theorem by157 : cfg.bytes 157 = 136 := by kernel_rfl
theorem ag157 : cfg.isAgg 157 = some true := by kernel_rfl
theorem kn157 : known cfg 157 = true := by kernel_rfl
theorem ze157 : cfg.zero 157 = some (.agg [(.i .i64 0), (.i .u8 0), (.i .u8 0), (.i .u8 0), (.i .u8 0), (.i .u8 0), (.i .u8 0), (.i .u8 0), (.i .u8 0), (.i .u8 0), (.i .u8 0), (.i .u8 0), (.i .u8 0), (.i .u8 0), (.i .u8 0), (.i .u8 0), (.i .u8 0), (.i .u8 0), (.i .u8 0), (.i .u8 0), (.i .u8 0), (.i .u8 0), (.i .u8 0), (.i .u8 0), (.i .u8 0), (.i .u8 0), (.i .u8 0), (.i .u8 0), (.i .u8 0), (.i .u8 0), (.i .u8 0), (.i .u8 0), (.i .u8 0), (.i .u8 0), (.i .u8 0), (.i .u8 0), (.i .u8 0), (.i .u8 0), (.i .u8 0), (.i .u8 0), (.i .u8 0), (.i .u8 0), (.i .u8 0), (.i .u8 0), (.i .u8 0), (.i .u8 0), (.i .u8 0), (.i .u8 0), (.i .u8 0), (.i .u8 0), (.i .u8 0), (.i .u8 0), (.i .u8 0), (.i .u8 0), (.i .u8 0), (.i .u8 0), (.i .u8 0), (.i .u8 0), (.i .u8 0), (.i .u8 0), (.i .u8 0), (.i .u8 0), (.i .u8 0), (.i .u8 0), (.i .u8 0), (.i .u8 0), (.i .u8 0), (.i .u8 0), (.i .u8 0), (.i .u8 0), (.i .u8 0), (.i .u8 0), (.i .u8 0), (.i .u8 0), (.i .u8 0), (.i .u8 0), (.i .u8 0), (.i .u8 0), (.i .u8 0), (.i .u8 0), (.i .u8 0), (.i .u8 0), (.i .u8 0), (.i .u8 0), (.i .u8 0), (.i .u8 0), (.i .u8 0), (.i .u8 0), (.i .u8 0), (.i .u8 0), (.i .u8 0), (.i .u8 0), (.i .u8 0), (.i .u8 0), (.i .u8 0), (.i .u8 0), (.i .u8 0), (.i .u8 0), (.i .u8 0), (.i .u8 0), (.i .u8 0), (.i .u8 0), (.i .u8 0), (.i .u8 0), (.i .u8 0), (.i .u8 0), (.i .u8 0), (.i .u8 0), (.i .u8 0), (.i .u8 0), (.i .u8 0), (.i .u8 0), (.i .u8 0), (.i .u8 0), (.i .u8 0), (.i .u8 0), (.i .u8 0), (.i .u8 0), (.i .u8 0), (.i .u8 0), (.i .u8 0), (.i .u8 0), (.i .u8 0), (.i .u8 0), (.i .u8 0), (.i .u8 0), (.i .u8 0), (.i .u8 0), (.i .u8 0)]) := by kernel_rfl
theorem fk157 : flat cfg 20 157 = some ([(.i .i64)] ++ List.replicate 128 (.i .u8) : List Fk) := by kernel_rfl
theorem pl157 : cfg.places 157 = some [(0, 1), (1, 128)] := by kernel_rfl
theorem sh159 : cfg.shape 159 = .other := by kernel_rfl
theorem sz159 : cfg.size 159 = some 2 := by kernel_rfl
theorem by159 : cfg.bytes 159 = 16 := by kernel_rfl
theorem ag159 : cfg.isAgg 159 = some true := by kernel_rfl
theorem kn159 : known cfg 159 = true := by kernel_rfl
theorem ze159 : cfg.zero 159 = some (.agg [(.i .i64 0), (.i .i64 0)]) := by kernel_rfl
theorem fk159 : flat cfg 20 159 = some ([(.i .i64), (.i .i64)] : List Fk) := by kernel_rfl
theorem pl159 : cfg.places 159 = some [(0, 1), (1, 1)] := by kernel_rfl
theorem sh170 : cfg.shape 170 = .map 3 4 := by kernel_rfl
theorem sz170 : cfg.size 170 = some 1 := by kernel_rfl
theorem by170 : cfg.bytes 170 = 8 := by kernel_rfl
theorem ag170 : cfg.isAgg 170 = some false := by kernel_rfl
theorem kn170 : known cfg 170 = true := by kernel_rfl
theorem ze170 : cfg.zero 170 = some .nilm := by kernel_rfl
theorem sh171 : cfg.shape 171 = .array 2 170 := by kernel_rfl
theorem sz171 : cfg.size 171 = some 2 := by kernel_rfl
theorem by171 : cfg.bytes 171 = 16 := by kernel_rfl
theorem ag171 : cfg.isAgg 171 = some true := by kernel_rfl
theorem kn171 : known cfg 171 = true := by kernel_rfl
theorem ze171 : cfg.zero 171 = some (.agg [.nilm, .nilm]) := by kernel_rfl
theorem sh176 : cfg.shape 176 = .other := by kernel_rfl
theorem sz176 : cfg.size 176 = some 1 := by kernel_rfl
theorem by176 : cfg.bytes 176 = 8 := by kernel_rfl
theorem ag176 : cfg.isAgg 176 = some false := by kernel_rfl
theorem kn176 : known cfg 176 = true := by kernel_rfl
theorem ze176 : cfg.zero 176 = some .nilp := by kernel_rfl
theorem sh178 : cfg.shape 178 = .other := by kernel_rfl
theorem sz178 : cfg.size 178 = some 2 := by kernel_rfl
theorem by178 : cfg.bytes 178 = 32 := by kernel_rfl
theorem ag178 : cfg.isAgg 178 = some true := by kernel_rfl
theorem kn178 : known cfg 178 = true := by kernel_rfl
theorem ze178 : cfg.zero 178 = some (.agg [.nilp, .nils]) := by kernel_rfl
theorem pl178 : cfg.places 178 = some [(0, 1), (1, 1)] := by kernel_rfl
theorem sh186 : cfg.shape 186 = .int .i64 := by kernel_rfl
theorem sz186 : cfg.size 186 = some 1 := by kernel_rfl
theorem by186 : cfg.bytes 186 = 8 := by kernel_rfl
theorem ag186 : cfg.isAgg 186 = some false := by kernel_rfl
theorem kn186 : known cfg 186 = true := by kernel_rfl
theorem ze186 : cfg.zero 186 = some (.i .i64 0) := by kernel_rfl
theorem sh193 : cfg.shape 193 = .int .u32 := by kernel_rfl
theorem sz193 : cfg.size 193 = some 1 := by kernel_rfl
theorem by193 : cfg.bytes 193 = 4 := by kernel_rfl
theorem ag193 : cfg.isAgg 193 = some false := by kernel_rfl
theorem kn193 : known cfg 193 = true := by kernel_rfl
theorem ze193 : cfg.zero 193 = some (.i .u32 0) := by kernel_rfl
theorem sh199 : cfg.shape 199 = .other := by kernel_rfl
theorem sz199 : cfg.size 199 = some 1 := by kernel_rfl
theorem by199 : cfg.bytes 199 = 8 := by kernel_rfl
theorem ag199 : cfg.isAgg 199 = some false := by kernel_rfl
theorem kn199 : known cfg 199 = true := by kernel_rfl
theorem ze199 : cfg.zero 199 = some .nilp := by kernel_rfl
theorem sh200 : cfg.shape 200 = .int .u64 := by kernel_rfl
theorem sz200 : cfg.size 200 = some 1 := by kernel_rfl
theorem by200 : cfg.bytes 200 = 8 := by kernel_rfl
theorem ag200 : cfg.isAgg 200 = some false := by kernel_rfl
theorem kn200 : known cfg 200 = true := by kernel_rfl
theorem ze200 : cfg.zero 200 = some (.i .u64 0) := by kernel_rfl
theorem sh208 : cfg.shape 208 = .other := by kernel_rfl
theorem sz208 : cfg.size 208 = some 1 := by kernel_rfl
theorem by208 : cfg.bytes 208 = 8 := by kernel_rfl
theorem ag208 : cfg.isAgg 208 = some false := by kernel_rfl
theorem kn208 : known cfg 208 = true := by kernel_rfl
theorem ze208 : cfg.zero 208 = some .nilp := by kernel_rfl
theorem les9 {σ : List O} {b : ByteArray} : lenA cfg 9 σ (.s b) = some (.i .i64 b.size) := len_str sh9
theorem ixs9 {i : Int} {b : ByteArray} {k : IntKind} (h0 : 0 ≤ i) (h1 : i < b.size) : indexA cfg 9 (.s b) (.i k i) = (b[i.toNat]?).map fun x => .i .u8 x.toNat := ixs sh9 h0 h1
theorem ixi22 {r o n : Nat} {i : Int} {st : List Nat} {cap : Option Nat} {k : IntKind} (h0 : 0 ≤ i) (h1 : i < n) : indexAddrA cfg 22 (.sl r st o n 1 cap) (.i k i) = some (.ptr r st (o + i.toNat * 1)) := ixi sh22 sz5 h0 h1
theorem iai22 {n : Nat} {i : Int} {cs : List V} {cl : Bool} {k : IntKind} (h0 : 0 ≤ i) (h1 : i < n) : indexAddrA cfg 22 (.arr cs n cl) (.i k i) = some (.iptr (cs.drop (i.toNat * 1))) := iai sh22 sz5 h0 h1
theorem eq34 {x y : Operand} {us vs : List V} (hu : us.map V.fk = ([(.i .i64), (.i .i64)] ++ [.s] ++ [(.i .i64)] ++ [.s] ++ [(.i .i64), (.i .i64), (.i .i64)] ++ [.s] : List Fk).map some) (hv : vs.map V.fk = ([(.i .i64), (.i .i64)] ++ [.s] ++ [(.i .i64)] ++ [.s] ++ [(.i .i64), (.i .i64), (.i .i64)] ++ [.s] : List Fk).map some) : binA cfg .eql 34 x y (.agg us) (.agg vs) = some (.b (eqB us vs)) := (binA_flat fk34 ag34 (by kernel_rfl) hu hv).1
theorem ne34 {x y : Operand} {us vs : List V} (hu : us.map V.fk = ([(.i .i64), (.i .i64)] ++ [.s] ++ [(.i .i64)] ++ [.s] ++ [(.i .i64), (.i .i64), (.i .i64)] ++ [.s] : List Fk).map some) (hv : vs.map V.fk = ([(.i .i64), (.i .i64)] ++ [.s] ++ [(.i .i64)] ++ [.s] ++ [(.i .i64), (.i .i64), (.i .i64)] ++ [.s] : List Fk).map some) : binA cfg .neq 34 x y (.agg us) (.agg vs) = some (.b (!eqB us vs)) := (binA_flat fk34 ag34 (by kernel_rfl) hu hv).2
theorem lda34 {σ : List O} {r o : Nat} {st : List Nat} : loadA cfg 34 σ (.ptr r st o) = (rowAt σ r st).bind fun cs => (take? cs o 9).map V.agg := load_agg ag34 sz34 (by decide)
theorem sta34 {σ : List O} {r o : Nat} {st : List Nat} {us : List V} (hl : us.length = 9) (ho : us.all V.one = true) : storeA cfg 34 σ (.ptr r st o) (.agg us) = (rowAt σ r st).bind fun cs => if o + 9 ≤ cs.length then some (σ.set r (.cells st (splice cs o us))) else none := store_agg sz34 hl ho
theorem bd34 {parts : List (Nat × V)} : buildA cfg 34 parts = (partsAt (fun i => ([(0, 1), (1, 1), (2, 1), (3, 1), (4, 1), (5, 1), (6, 1), (7, 1), (8, 1)] : List (Nat × Nat))[i]?) parts).bind fun l => (fillA [(.i .i64 0), (.i .i64 0), (.s .empty), (.i .i64 0), (.s .empty), (.i .i64 0), (.i .i64 0), (.i .i64 0), (.s .empty)] l).map V.agg := build_struct sh34 pl34 ze34
theorem ld41 {σ : List O} {r o : Nat} {st : List Nat} : loadA cfg 41 σ (.ptr r st o) = (rowAt σ r st).bind fun cs => cs[o]? := load_sc ag41
theorem li41 {σ : List O} {cs : List V} : loadA cfg 41 σ (.iptr cs) = cs[0]? := load_ip ag41
theorem sto41 {σ : List O} {r o : Nat} {st : List Nat} {v : V} (hv : v.one = true) : storeA cfg 41 σ (.ptr r st o) v = (rowAt σ r st).bind fun cs => if o < cs.length then some (σ.set r (.cells st (cs.set o v))) else none := store_sc sz41 hv
theorem ixi41 {r o n : Nat} {i : Int} {st : List Nat} {cap : Option Nat} {k : IntKind} (h0 : 0 ≤ i) (h1 : i < n) : indexAddrA cfg 41 (.sl r st o n 130 cap) (.i k i) = some (.ptr r st (o + i.toNat * 130)) := ixi sh41 sz155 h0 h1
theorem iai41 {n : Nat} {i : Int} {cs : List V} {cl : Bool} {k : IntKind} (h0 : 0 ≤ i) (h1 : i < n) : indexAddrA cfg 41 (.arr cs n cl) (.i k i) = some (.iptr (cs.drop (i.toNat * 130))) := iai sh41 sz155 h0 h1
theorem le41 {σ : List O} {r o n es : Nat} {st : List Nat} {cap : Option Nat} : lenA cfg 41 σ (.sl r st o n es cap) = some (.i .i64 n) := len_sl sh41
theorem lr41 {σ : List O} {n : Nat} {cs : List V} {cl : Bool} : lenA cfg 41 σ (.arr cs n cl) = some (.i .i64 n) := len_arr sh41
theorem ln41 {σ : List O} : lenA cfg 41 σ .nils = some (.i .i64 0) := len_nils sh41
theorem ld42 {σ : List O} {r o : Nat} {st : List Nat} : loadA cfg 42 σ (.ptr r st o) = (rowAt σ r st).bind fun cs => cs[o]? := load_sc ag42
theorem li42 {σ : List O} {cs : List V} : loadA cfg 42 σ (.iptr cs) = cs[0]? := load_ip ag42
theorem sto42 {σ : List O} {r o : Nat} {st : List Nat} {v : V} (hv : v.one = true) : storeA cfg 42 σ (.ptr r st o) v = (rowAt σ r st).bind fun cs => if o < cs.length then some (σ.set r (.cells st (cs.set o v))) else none := store_sc sz42 hv
theorem ixi42 {r o n : Nat} {i : Int} {st : List Nat} {cap : Option Nat} {k : IntKind} (h0 : 0 ≤ i) (h1 : i < n) : indexAddrA cfg 42 (.sl r st o n 129 cap) (.i k i) = some (.ptr r st (o + i.toNat * 129)) := ixi sh42 sz157 h0 h1
theorem iai42 {n : Nat} {i : Int} {cs : List V} {cl : Bool} {k : IntKind} (h0 : 0 ≤ i) (h1 : i < n) : indexAddrA cfg 42 (.arr cs n cl) (.i k i) = some (.iptr (cs.drop (i.toNat * 129))) := iai sh42 sz157 h0 h1
theorem le42 {σ : List O} {r o n es : Nat} {st : List Nat} {cap : Option Nat} : lenA cfg 42 σ (.sl r st o n es cap) = some (.i .i64 n) := len_sl sh42
theorem lr42 {σ : List O} {n : Nat} {cs : List V} {cl : Bool} : lenA cfg 42 σ (.arr cs n cl) = some (.i .i64 n) := len_arr sh42
theorem ln42 {σ : List O} : lenA cfg 42 σ .nils = some (.i .i64 0) := len_nils sh42
theorem lda44 {σ : List O} {r o : Nat} {st : List Nat} : loadA cfg 44 σ (.ptr r st o) = (rowAt σ r st).bind fun cs => (take? cs o 4).map V.agg := load_agg ag44 sz44 (by decide)
theorem sta44 {σ : List O} {r o : Nat} {st : List Nat} {us : List V} (hl : us.length = 4) (ho : us.all V.one = true) : storeA cfg 44 σ (.ptr r st o) (.agg us) = (rowAt σ r st).bind fun cs => if o + 4 ≤ cs.length then some (σ.set r (.cells st (splice cs o us))) else none := store_agg sz44 hl ho
theorem bd44 {parts : List (Nat × V)} : buildA cfg 44 parts = (partsAt (fun i => ([(0, 1), (1, 1), (2, 1), (3, 1)] : List (Nat × Nat))[i]?) parts).bind fun l => (fillA [.nils, .nils, (.i .i64 0), (.b false)] l).map V.agg := build_struct sh44 pl44 ze44
theorem fi44x0 : cfg.field 44 0 = some (0, 41) := by kernel_rfl
theorem fi44x1 : cfg.field 44 1 = some (1, 42) := by kernel_rfl
theorem fi44x2 : cfg.field 44 2 = some (2, 3) := by kernel_rfl
theorem fi44x3 : cfg.field 44 3 = some (3, 4) := by kernel_rfl
theorem ld45 {σ : List O} {r o : Nat} {st : List Nat} : loadA cfg 45 σ (.ptr r st o) = (rowAt σ r st).bind fun cs => cs[o]? := load_sc ag45
theorem li45 {σ : List O} {cs : List V} : loadA cfg 45 σ (.iptr cs) = cs[0]? := load_ip ag45
theorem sto45 {σ : List O} {r o : Nat} {st : List Nat} {v : V} (hv : v.one = true) : storeA cfg 45 σ (.ptr r st o) v = (rowAt σ r st).bind fun cs => if o < cs.length then some (σ.set r (.cells st (cs.set o v))) else none := store_sc sz45 hv
theorem ixi45 {r o n : Nat} {i : Int} {st : List Nat} {cap : Option Nat} {k : IntKind} (h0 : 0 ≤ i) (h1 : i < n) : indexAddrA cfg 45 (.sl r st o n 2 cap) (.i k i) = some (.ptr r st (o + i.toNat * 2)) := ixi sh45 sz159 h0 h1
theorem iai45 {n : Nat} {i : Int} {cs : List V} {cl : Bool} {k : IntKind} (h0 : 0 ≤ i) (h1 : i < n) : indexAddrA cfg 45 (.arr cs n cl) (.i k i) = some (.iptr (cs.drop (i.toNat * 2))) := iai sh45 sz159 h0 h1
theorem le45 {σ : List O} {r o n es : Nat} {st : List Nat} {cap : Option Nat} : lenA cfg 45 σ (.sl r st o n es cap) = some (.i .i64 n) := len_sl sh45
theorem lr45 {σ : List O} {n : Nat} {cs : List V} {cl : Bool} : lenA cfg 45 σ (.arr cs n cl) = some (.i .i64 n) := len_arr sh45
theorem ln45 {σ : List O} : lenA cfg 45 σ .nils = some (.i .i64 0) := len_nils sh45
theorem lda47 {σ : List O} {r o : Nat} {st : List Nat} : loadA cfg 47 σ (.ptr r st o) = (rowAt σ r st).bind fun cs => (take? cs o 2).map V.agg := load_agg ag47 sz47 (by decide)
theorem sta47 {σ : List O} {r o : Nat} {st : List Nat} {us : List V} (hl : us.length = 2) (ho : us.all V.one = true) : storeA cfg 47 σ (.ptr r st o) (.agg us) = (rowAt σ r st).bind fun cs => if o + 2 ≤ cs.length then some (σ.set r (.cells st (splice cs o us))) else none := store_agg sz47 hl ho
theorem bd47 {parts : List (Nat × V)} : buildA cfg 47 parts = (partsAt (fun i => ([(0, 1), (1, 1)] : List (Nat × Nat))[i]?) parts).bind fun l => (fillA [(.i .i64 0), .nils] l).map V.agg := build_struct sh47 pl47 ze47
theorem fi47x0 : cfg.field 47 0 = some (0, 3) := by kernel_rfl
theorem fi47x1 : cfg.field 47 1 = some (1, 45) := by kernel_rfl
theorem ipi48 {r o : Nat} {i : Int} {st : List Nat} {k : IntKind} (h0 : 0 ≤ i) (h1 : i < 2) : indexAddrA cfg 48 (.ptr r st o) (.i k i) = some (.ptr r st (o + i.toNat * 1)) := ipi (m := 2) sh48 sz3 h0 h1
theorem ixv48 {i : Int} {cs : List V} {k : IntKind} (h0 : 0 ≤ i) (h1 : i < 2) : indexA cfg 48 (.agg cs) (.i k i) = cs[i.toNat]? := ixv (m := 2) sh48 sz3 ag3 h0 h1
theorem eq48 {x y : Operand} {us vs : List V} (hu : us.map V.fk = ([(.i .i64), (.i .i64)] : List Fk).map some) (hv : vs.map V.fk = ([(.i .i64), (.i .i64)] : List Fk).map some) : binA cfg .eql 48 x y (.agg us) (.agg vs) = some (.b (eqB us vs)) := (binA_flat fk48 ag48 (by kernel_rfl) hu hv).1
theorem ne48 {x y : Operand} {us vs : List V} (hu : us.map V.fk = ([(.i .i64), (.i .i64)] : List Fk).map some) (hv : vs.map V.fk = ([(.i .i64), (.i .i64)] : List Fk).map some) : binA cfg .neq 48 x y (.agg us) (.agg vs) = some (.b (!eqB us vs)) := (binA_flat fk48 ag48 (by kernel_rfl) hu hv).2
theorem lda48 {σ : List O} {r o : Nat} {st : List Nat} : loadA cfg 48 σ (.ptr r st o) = (rowAt σ r st).bind fun cs => (take? cs o 2).map V.agg := load_agg ag48 sz48 (by decide)
theorem sta48 {σ : List O} {r o : Nat} {st : List Nat} {us : List V} (hl : us.length = 2) (ho : us.all V.one = true) : storeA cfg 48 σ (.ptr r st o) (.agg us) = (rowAt σ r st).bind fun cs => if o + 2 ≤ cs.length then some (σ.set r (.cells st (splice cs o us))) else none := store_agg sz48 hl ho
theorem bd48 {parts : List (Nat × V)} : buildA cfg 48 parts = (partsAt (fun i => some (i * 1, 1)) parts).bind fun l => (fillA [(.i .i64 0), (.i .i64 0)] l).map V.agg := build_array sh48 sz3 ze48
theorem lda50 {σ : List O} {r o : Nat} {st : List Nat} : loadA cfg 50 σ (.ptr r st o) = (rowAt σ r st).bind fun cs => (take? cs o 4).map V.agg := load_agg ag50 sz50 (by decide)
theorem sta50 {σ : List O} {r o : Nat} {st : List Nat} {us : List V} (hl : us.length = 4) (ho : us.all V.one = true) : storeA cfg 50 σ (.ptr r st o) (.agg us) = (rowAt σ r st).bind fun cs => if o + 4 ≤ cs.length then some (σ.set r (.cells st (splice cs o us))) else none := store_agg sz50 hl ho
theorem bd50 {parts : List (Nat × V)} : buildA cfg 50 parts = (partsAt (fun i => ([(0, 2), (2, 1), (3, 1)] : List (Nat × Nat))[i]?) parts).bind fun l => (fillA [(.i .i64 0), (.i .i64 0), (.i .i64 0), .nils] l).map V.agg := build_struct sh50 pl50 ze50
theorem fi50x0 : cfg.field 50 0 = some (0, 48) := by kernel_rfl
theorem fi50x1 : cfg.field 50 1 = some (2, 3) := by kernel_rfl
theorem fi50x2 : cfg.field 50 2 = some (3, 22) := by kernel_rfl
theorem lda52 {σ : List O} {r o : Nat} {st : List Nat} : loadA cfg 52 σ (.ptr r st o) = (rowAt σ r st).bind fun cs => (take? cs o 10).map V.agg := load_agg ag52 sz52 (by decide)
theorem sta52 {σ : List O} {r o : Nat} {st : List Nat} {us : List V} (hl : us.length = 10) (ho : us.all V.one = true) : storeA cfg 52 σ (.ptr r st o) (.agg us) = (rowAt σ r st).bind fun cs => if o + 10 ≤ cs.length then some (σ.set r (.cells st (splice cs o us))) else none := store_agg sz52 hl ho
theorem bd52 {parts : List (Nat × V)} : buildA cfg 52 parts = (partsAt (fun i => ([(0, 4), (4, 2), (6, 4)] : List (Nat × Nat))[i]?) parts).bind fun l => (fillA [.nils, .nils, (.i .i64 0), (.b false), (.i .i64 0), .nils, (.i .i64 0), (.i .i64 0), (.i .i64 0), .nils] l).map V.agg := build_struct sh52 pl52 ze52
theorem fi52x0 : cfg.field 52 0 = some (0, 44) := by kernel_rfl
theorem fi52x1 : cfg.field 52 1 = some (4, 47) := by kernel_rfl
theorem fi52x2 : cfg.field 52 2 = some (6, 50) := by kernel_rfl
theorem ld57 {σ : List O} {r o : Nat} {st : List Nat} : loadA cfg 57 σ (.ptr r st o) = (rowAt σ r st).bind fun cs => cs[o]? := load_sc ag57
theorem li57 {σ : List O} {cs : List V} : loadA cfg 57 σ (.iptr cs) = cs[0]? := load_ip ag57
theorem sto57 {σ : List O} {r o : Nat} {st : List Nat} {v : V} (hv : v.one = true) : storeA cfg 57 σ (.ptr r st o) v = (rowAt σ r st).bind fun cs => if o < cs.length then some (σ.set r (.cells st (cs.set o v))) else none := store_sc sz57 hv
theorem ixi57 {r o n : Nat} {i : Int} {st : List Nat} {cap : Option Nat} {k : IntKind} (h0 : 0 ≤ i) (h1 : i < n) : indexAddrA cfg 57 (.sl r st o n 2 cap) (.i k i) = some (.ptr r st (o + i.toNat * 2)) := ixi sh57 sz66 h0 h1
theorem iai57 {n : Nat} {i : Int} {cs : List V} {cl : Bool} {k : IntKind} (h0 : 0 ≤ i) (h1 : i < n) : indexAddrA cfg 57 (.arr cs n cl) (.i k i) = some (.iptr (cs.drop (i.toNat * 2))) := iai sh57 sz66 h0 h1
theorem le57 {σ : List O} {r o n es : Nat} {st : List Nat} {cap : Option Nat} : lenA cfg 57 σ (.sl r st o n es cap) = some (.i .i64 n) := len_sl sh57
theorem lr57 {σ : List O} {n : Nat} {cs : List V} {cl : Bool} : lenA cfg 57 σ (.arr cs n cl) = some (.i .i64 n) := len_arr sh57
theorem ln57 {σ : List O} : lenA cfg 57 σ .nils = some (.i .i64 0) := len_nils sh57
theorem eq66 {x y : Operand} {us vs : List V} (hu : us.map V.fk = ([.s] ++ [(.i .i64)] : List Fk).map some) (hv : vs.map V.fk = ([.s] ++ [(.i .i64)] : List Fk).map some) : binA cfg .eql 66 x y (.agg us) (.agg vs) = some (.b (eqB us vs)) := (binA_flat fk66 ag66 (by kernel_rfl) hu hv).1
theorem ne66 {x y : Operand} {us vs : List V} (hu : us.map V.fk = ([.s] ++ [(.i .i64)] : List Fk).map some) (hv : vs.map V.fk = ([.s] ++ [(.i .i64)] : List Fk).map some) : binA cfg .neq 66 x y (.agg us) (.agg vs) = some (.b (!eqB us vs)) := (binA_flat fk66 ag66 (by kernel_rfl) hu hv).2
theorem lda66 {σ : List O} {r o : Nat} {st : List Nat} : loadA cfg 66 σ (.ptr r st o) = (rowAt σ r st).bind fun cs => (take? cs o 2).map V.agg := load_agg ag66 sz66 (by decide)
theorem sta66 {σ : List O} {r o : Nat} {st : List Nat} {us : List V} (hl : us.length = 2) (ho : us.all V.one = true) : storeA cfg 66 σ (.ptr r st o) (.agg us) = (rowAt σ r st).bind fun cs => if o + 2 ≤ cs.length then some (σ.set r (.cells st (splice cs o us))) else none := store_agg sz66 hl ho
theorem bd66 {parts : List (Nat × V)} : buildA cfg 66 parts = (partsAt (fun i => ([(0, 1), (1, 1)] : List (Nat × Nat))[i]?) parts).bind fun l => (fillA [(.s .empty), (.i .i64 0)] l).map V.agg := build_struct sh66 pl66 ze66
theorem fi66x0 : cfg.field 66 0 = some (0, 9) := by kernel_rfl
theorem fi66x1 : cfg.field 66 1 = some (1, 3) := by kernel_rfl
theorem ld72 {σ : List O} {r o : Nat} {st : List Nat} : loadA cfg 72 σ (.ptr r st o) = (rowAt σ r st).bind fun cs => cs[o]? := load_sc ag72
theorem li72 {σ : List O} {cs : List V} : loadA cfg 72 σ (.iptr cs) = cs[0]? := load_ip ag72
theorem sto72 {σ : List O} {r o : Nat} {st : List Nat} {v : V} (hv : v.one = true) : storeA cfg 72 σ (.ptr r st o) v = (rowAt σ r st).bind fun cs => if o < cs.length then some (σ.set r (.cells st (cs.set o v))) else none := store_sc sz72 hv
theorem ix72 {r o n j : Nat} {st : List Nat} {cap : Option Nat} {k : IntKind} (h : j < n) : indexAddrA cfg 72 (.sl r st o n 1 cap) (.i k j) = some (.ptr r st (o + j)) := idx_sl sh72 sz9 h
theorem ia72 {n j : Nat} {cs : List V} {cl : Bool} {k : IntKind} (h : j < n) : indexAddrA cfg 72 (.arr cs n cl) (.i k j) = some (.iptr (cs.drop j)) := idx_arr sh72 sz9 h
theorem mk72 {σ : List O} {st : List Nat} {n : Nat} (h : n ≤ 1000000000000) : makeSliceA cfg 72 (.i .i64 n) (.i .i64 n) σ st = some (.sl σ.length st 0 n 1 (some n), σ ++ [.cells st (List.replicate n (.s .empty))]) := make_sc el72 by9 (by omega) (by omega) rfl
theorem ixi72 {r o n : Nat} {i : Int} {st : List Nat} {cap : Option Nat} {k : IntKind} (h0 : 0 ≤ i) (h1 : i < n) : indexAddrA cfg 72 (.sl r st o n 1 cap) (.i k i) = some (.ptr r st (o + i.toNat * 1)) := ixi sh72 sz9 h0 h1
theorem iai72 {n : Nat} {i : Int} {cs : List V} {cl : Bool} {k : IntKind} (h0 : 0 ≤ i) (h1 : i < n) : indexAddrA cfg 72 (.arr cs n cl) (.i k i) = some (.iptr (cs.drop (i.toNat * 1))) := iai sh72 sz9 h0 h1
theorem le72 {σ : List O} {r o n es : Nat} {st : List Nat} {cap : Option Nat} : lenA cfg 72 σ (.sl r st o n es cap) = some (.i .i64 n) := len_sl sh72
theorem lr72 {σ : List O} {n : Nat} {cs : List V} {cl : Bool} : lenA cfg 72 σ (.arr cs n cl) = some (.i .i64 n) := len_arr sh72
theorem ln72 {σ : List O} : lenA cfg 72 σ .nils = some (.i .i64 0) := len_nils sh72
theorem ld85 {σ : List O} {r o : Nat} {st : List Nat} : loadA cfg 85 σ (.ptr r st o) = (rowAt σ r st).bind fun cs => cs[o]? := load_sc ag85
theorem li85 {σ : List O} {cs : List V} : loadA cfg 85 σ (.iptr cs) = cs[0]? := load_ip ag85
theorem sto85 {σ : List O} {r o : Nat} {st : List Nat} {v : V} (hv : v.one = true) : storeA cfg 85 σ (.ptr r st o) v = (rowAt σ r st).bind fun cs => if o < cs.length then some (σ.set r (.cells st (cs.set o v))) else none := store_sc sz85 hv
theorem ix85 {r o n j : Nat} {st : List Nat} {cap : Option Nat} {k : IntKind} (h : j < n) : indexAddrA cfg 85 (.sl r st o n 1 cap) (.i k j) = some (.ptr r st (o + j)) := idx_sl sh85 sz3 h
theorem ia85 {n j : Nat} {cs : List V} {cl : Bool} {k : IntKind} (h : j < n) : indexAddrA cfg 85 (.arr cs n cl) (.i k j) = some (.iptr (cs.drop j)) := idx_arr sh85 sz3 h
theorem mk85 {σ : List O} {st : List Nat} {n : Nat} (h : n ≤ 1000000000000) : makeSliceA cfg 85 (.i .i64 n) (.i .i64 n) σ st = some (.sl σ.length st 0 n 1 (some n), σ ++ [.cells st (List.replicate n (.i .i64 0))]) := make_sc el85 by3 (by omega) (by omega) rfl
theorem ixi85 {r o n : Nat} {i : Int} {st : List Nat} {cap : Option Nat} {k : IntKind} (h0 : 0 ≤ i) (h1 : i < n) : indexAddrA cfg 85 (.sl r st o n 1 cap) (.i k i) = some (.ptr r st (o + i.toNat * 1)) := ixi sh85 sz3 h0 h1
theorem iai85 {n : Nat} {i : Int} {cs : List V} {cl : Bool} {k : IntKind} (h0 : 0 ≤ i) (h1 : i < n) : indexAddrA cfg 85 (.arr cs n cl) (.i k i) = some (.iptr (cs.drop (i.toNat * 1))) := iai sh85 sz3 h0 h1
theorem le85 {σ : List O} {r o n es : Nat} {st : List Nat} {cap : Option Nat} : lenA cfg 85 σ (.sl r st o n es cap) = some (.i .i64 n) := len_sl sh85
theorem lr85 {σ : List O} {n : Nat} {cs : List V} {cl : Bool} : lenA cfg 85 σ (.arr cs n cl) = some (.i .i64 n) := len_arr sh85
theorem ln85 {σ : List O} : lenA cfg 85 σ .nils = some (.i .i64 0) := len_nils sh85
theorem ixi89 {r o n : Nat} {i : Int} {st : List Nat} {cap : Option Nat} {k : IntKind} (h0 : 0 ≤ i) (h1 : i < n) : indexAddrA cfg 89 (.sl r st o n 1 cap) (.i k i) = some (.ptr r st (o + i.toNat * 1)) := ixi sh89 sz4 h0 h1
theorem iai89 {n : Nat} {i : Int} {cs : List V} {cl : Bool} {k : IntKind} (h0 : 0 ≤ i) (h1 : i < n) : indexAddrA cfg 89 (.arr cs n cl) (.i k i) = some (.iptr (cs.drop (i.toNat * 1))) := iai sh89 sz4 h0 h1
theorem ipi94 {r o : Nat} {i : Int} {st : List Nat} {k : IntKind} (h0 : 0 ≤ i) (h1 : i < 5) : indexAddrA cfg 94 (.ptr r st o) (.i k i) = some (.ptr r st (o + i.toNat * 1)) := ipi (m := 5) sh94 sz93 h0 h1
theorem ixv94 {i : Int} {cs : List V} {k : IntKind} (h0 : 0 ≤ i) (h1 : i < 5) : indexA cfg 94 (.agg cs) (.i k i) = cs[i.toNat]? := ixv (m := 5) sh94 sz93 ag93 h0 h1
theorem lda94 {σ : List O} {r o : Nat} {st : List Nat} : loadA cfg 94 σ (.ptr r st o) = (rowAt σ r st).bind fun cs => (take? cs o 5).map V.agg := load_agg ag94 sz94 (by decide)
theorem sta94 {σ : List O} {r o : Nat} {st : List Nat} {us : List V} (hl : us.length = 5) (ho : us.all V.one = true) : storeA cfg 94 σ (.ptr r st o) (.agg us) = (rowAt σ r st).bind fun cs => if o + 5 ≤ cs.length then some (σ.set r (.cells st (splice cs o us))) else none := store_agg sz94 hl ho
theorem bd94 {parts : List (Nat × V)} : buildA cfg 94 parts = (partsAt (fun i => some (i * 1, 1)) parts).bind fun l => (fillA [.nilp, .nilp, .nilp, .nilp, .nilp] l).map V.agg := build_array sh94 sz93 ze94
theorem lda98 {σ : List O} {r o : Nat} {st : List Nat} : loadA cfg 98 σ (.ptr r st o) = (rowAt σ r st).bind fun cs => (take? cs o 2).map V.agg := load_agg ag98 sz98 (by decide)
theorem sta98 {σ : List O} {r o : Nat} {st : List Nat} {us : List V} (hl : us.length = 2) (ho : us.all V.one = true) : storeA cfg 98 σ (.ptr r st o) (.agg us) = (rowAt σ r st).bind fun cs => if o + 2 ≤ cs.length then some (σ.set r (.cells st (splice cs o us))) else none := store_agg sz98 hl ho
theorem bd98 {parts : List (Nat × V)} : buildA cfg 98 parts = (partsAt (fun i => ([(0, 1), (1, 1)] : List (Nat × Nat))[i]?) parts).bind fun l => (fillA [.nils, (.b false)] l).map V.agg := build_struct sh98 pl98 ze98
theorem ipi102 {r o : Nat} {i : Int} {st : List Nat} {k : IntKind} (h0 : 0 ≤ i) (h1 : i < 5) : indexAddrA cfg 102 (.ptr r st o) (.i k i) = some (.ptr r st (o + i.toNat * 1)) := ipi (m := 5) sh102 sz3 h0 h1
theorem ixv102 {i : Int} {cs : List V} {k : IntKind} (h0 : 0 ≤ i) (h1 : i < 5) : indexA cfg 102 (.agg cs) (.i k i) = cs[i.toNat]? := ixv (m := 5) sh102 sz3 ag3 h0 h1
theorem eq102 {x y : Operand} {us vs : List V} (hu : us.map V.fk = (List.replicate 5 (.i .i64) : List Fk).map some) (hv : vs.map V.fk = (List.replicate 5 (.i .i64) : List Fk).map some) : binA cfg .eql 102 x y (.agg us) (.agg vs) = some (.b (eqB us vs)) := (binA_flat fk102 ag102 (by kernel_rfl) hu hv).1
theorem ne102 {x y : Operand} {us vs : List V} (hu : us.map V.fk = (List.replicate 5 (.i .i64) : List Fk).map some) (hv : vs.map V.fk = (List.replicate 5 (.i .i64) : List Fk).map some) : binA cfg .neq 102 x y (.agg us) (.agg vs) = some (.b (!eqB us vs)) := (binA_flat fk102 ag102 (by kernel_rfl) hu hv).2
theorem lda102 {σ : List O} {r o : Nat} {st : List Nat} : loadA cfg 102 σ (.ptr r st o) = (rowAt σ r st).bind fun cs => (take? cs o 5).map V.agg := load_agg ag102 sz102 (by decide)
theorem sta102 {σ : List O} {r o : Nat} {st : List Nat} {us : List V} (hl : us.length = 5) (ho : us.all V.one = true) : storeA cfg 102 σ (.ptr r st o) (.agg us) = (rowAt σ r st).bind fun cs => if o + 5 ≤ cs.length then some (σ.set r (.cells st (splice cs o us))) else none := store_agg sz102 hl ho
theorem bd102 {parts : List (Nat × V)} : buildA cfg 102 parts = (partsAt (fun i => some (i * 1, 1)) parts).bind fun l => (fillA [(.i .i64 0), (.i .i64 0), (.i .i64 0), (.i .i64 0), (.i .i64 0)] l).map V.agg := build_array sh102 sz3 ze102
theorem ipi104 {r o : Nat} {i : Int} {st : List Nat} {k : IntKind} (h0 : 0 ≤ i) (h1 : i < 2) : indexAddrA cfg 104 (.ptr r st o) (.i k i) = some (.ptr r st (o + i.toNat * 1)) := ipi (m := 2) sh104 sz9 h0 h1
theorem ixv104 {i : Int} {cs : List V} {k : IntKind} (h0 : 0 ≤ i) (h1 : i < 2) : indexA cfg 104 (.agg cs) (.i k i) = cs[i.toNat]? := ixv (m := 2) sh104 sz9 ag9 h0 h1
theorem eq104 {x y : Operand} {us vs : List V} (hu : us.map V.fk = ([.s, .s] : List Fk).map some) (hv : vs.map V.fk = ([.s, .s] : List Fk).map some) : binA cfg .eql 104 x y (.agg us) (.agg vs) = some (.b (eqB us vs)) := (binA_flat fk104 ag104 (by kernel_rfl) hu hv).1
theorem ne104 {x y : Operand} {us vs : List V} (hu : us.map V.fk = ([.s, .s] : List Fk).map some) (hv : vs.map V.fk = ([.s, .s] : List Fk).map some) : binA cfg .neq 104 x y (.agg us) (.agg vs) = some (.b (!eqB us vs)) := (binA_flat fk104 ag104 (by kernel_rfl) hu hv).2
theorem lda104 {σ : List O} {r o : Nat} {st : List Nat} : loadA cfg 104 σ (.ptr r st o) = (rowAt σ r st).bind fun cs => (take? cs o 2).map V.agg := load_agg ag104 sz104 (by decide)
theorem sta104 {σ : List O} {r o : Nat} {st : List Nat} {us : List V} (hl : us.length = 2) (ho : us.all V.one = true) : storeA cfg 104 σ (.ptr r st o) (.agg us) = (rowAt σ r st).bind fun cs => if o + 2 ≤ cs.length then some (σ.set r (.cells st (splice cs o us))) else none := store_agg sz104 hl ho
theorem bd104 {parts : List (Nat × V)} : buildA cfg 104 parts = (partsAt (fun i => some (i * 1, 1)) parts).bind fun l => (fillA [(.s .empty), (.s .empty)] l).map V.agg := build_array sh104 sz9 ze104
theorem eq127 {x y : Operand} {us vs : List V} (hu : us.map V.fk = (List.replicate 6 .b ++ [(.i .i64)] : List Fk).map some) (hv : vs.map V.fk = (List.replicate 6 .b ++ [(.i .i64)] : List Fk).map some) : binA cfg .eql 127 x y (.agg us) (.agg vs) = some (.b (eqB us vs)) := (binA_flat fk127 ag127 (by kernel_rfl) hu hv).1
theorem ne127 {x y : Operand} {us vs : List V} (hu : us.map V.fk = (List.replicate 6 .b ++ [(.i .i64)] : List Fk).map some) (hv : vs.map V.fk = (List.replicate 6 .b ++ [(.i .i64)] : List Fk).map some) : binA cfg .neq 127 x y (.agg us) (.agg vs) = some (.b (!eqB us vs)) := (binA_flat fk127 ag127 (by kernel_rfl) hu hv).2
theorem lda127 {σ : List O} {r o : Nat} {st : List Nat} : loadA cfg 127 σ (.ptr r st o) = (rowAt σ r st).bind fun cs => (take? cs o 7).map V.agg := load_agg ag127 sz127 (by decide)
theorem sta127 {σ : List O} {r o : Nat} {st : List Nat} {us : List V} (hl : us.length = 7) (ho : us.all V.one = true) : storeA cfg 127 σ (.ptr r st o) (.agg us) = (rowAt σ r st).bind fun cs => if o + 7 ≤ cs.length then some (σ.set r (.cells st (splice cs o us))) else none := store_agg sz127 hl ho
theorem bd127 {parts : List (Nat × V)} : buildA cfg 127 parts = (partsAt (fun i => ([(0, 1), (1, 1), (2, 1), (3, 1), (4, 1), (5, 1), (6, 1)] : List (Nat × Nat))[i]?) parts).bind fun l => (fillA [(.b false), (.b false), (.b false), (.b false), (.b false), (.b false), (.i .i64 0)] l).map V.agg := build_struct sh127 pl127 ze127
theorem ipi134 {r o : Nat} {i : Int} {st : List Nat} {k : IntKind} (h0 : 0 ≤ i) (h1 : i < 3) : indexAddrA cfg 134 (.ptr r st o) (.i k i) = some (.ptr r st (o + i.toNat * 1)) := ipi (m := 3) sh134 sz3 h0 h1
theorem ixv134 {i : Int} {cs : List V} {k : IntKind} (h0 : 0 ≤ i) (h1 : i < 3) : indexA cfg 134 (.agg cs) (.i k i) = cs[i.toNat]? := ixv (m := 3) sh134 sz3 ag3 h0 h1
theorem eq134 {x y : Operand} {us vs : List V} (hu : us.map V.fk = ([(.i .i64), (.i .i64), (.i .i64)] : List Fk).map some) (hv : vs.map V.fk = ([(.i .i64), (.i .i64), (.i .i64)] : List Fk).map some) : binA cfg .eql 134 x y (.agg us) (.agg vs) = some (.b (eqB us vs)) := (binA_flat fk134 ag134 (by kernel_rfl) hu hv).1
theorem ne134 {x y : Operand} {us vs : List V} (hu : us.map V.fk = ([(.i .i64), (.i .i64), (.i .i64)] : List Fk).map some) (hv : vs.map V.fk = ([(.i .i64), (.i .i64), (.i .i64)] : List Fk).map some) : binA cfg .neq 134 x y (.agg us) (.agg vs) = some (.b (!eqB us vs)) := (binA_flat fk134 ag134 (by kernel_rfl) hu hv).2
theorem lda134 {σ : List O} {r o : Nat} {st : List Nat} : loadA cfg 134 σ (.ptr r st o) = (rowAt σ r st).bind fun cs => (take? cs o 3).map V.agg := load_agg ag134 sz134 (by decide)
theorem sta134 {σ : List O} {r o : Nat} {st : List Nat} {us : List V} (hl : us.length = 3) (ho : us.all V.one = true) : storeA cfg 134 σ (.ptr r st o) (.agg us) = (rowAt σ r st).bind fun cs => if o + 3 ≤ cs.length then some (σ.set r (.cells st (splice cs o us))) else none := store_agg sz134 hl ho
theorem bd134 {parts : List (Nat × V)} : buildA cfg 134 parts = (partsAt (fun i => some (i * 1, 1)) parts).bind fun l => (fillA [(.i .i64 0), (.i .i64 0), (.i .i64 0)] l).map V.agg := build_array sh134 sz3 ze134
theorem ixi138 {r o n : Nat} {i : Int} {st : List Nat} {cap : Option Nat} {k : IntKind} (h0 : 0 ≤ i) (h1 : i < n) : indexAddrA cfg 138 (.sl r st o n 128 cap) (.i k i) = some (.ptr r st (o + i.toNat * 128)) := ixi sh138 sz153 h0 h1
theorem iai138 {n : Nat} {i : Int} {cs : List V} {cl : Bool} {k : IntKind} (h0 : 0 ≤ i) (h1 : i < n) : indexAddrA cfg 138 (.arr cs n cl) (.i k i) = some (.iptr (cs.drop (i.toNat * 128))) := iai sh138 sz153 h0 h1
theorem ld143 {σ : List O} {r o : Nat} {st : List Nat} : loadA cfg 143 σ (.ptr r st o) = (rowAt σ r st).bind fun cs => cs[o]? := load_sc ag143
theorem li143 {σ : List O} {cs : List V} : loadA cfg 143 σ (.iptr cs) = cs[0]? := load_ip ag143
theorem sto143 {σ : List O} {r o : Nat} {st : List Nat} {v : V} (hv : v.one = true) : storeA cfg 143 σ (.ptr r st o) v = (rowAt σ r st).bind fun cs => if o < cs.length then some (σ.set r (.cells st (cs.set o v))) else none := store_sc sz143 hv
theorem eq145 {x y : Operand} {us vs : List V} (hu : us.map V.fk = (List.replicate 6 (.i .i64) : List Fk).map some) (hv : vs.map V.fk = (List.replicate 6 (.i .i64) : List Fk).map some) : binA cfg .eql 145 x y (.agg us) (.agg vs) = some (.b (eqB us vs)) := (binA_flat fk145 ag145 (by kernel_rfl) hu hv).1
theorem ne145 {x y : Operand} {us vs : List V} (hu : us.map V.fk = (List.replicate 6 (.i .i64) : List Fk).map some) (hv : vs.map V.fk = (List.replicate 6 (.i .i64) : List Fk).map some) : binA cfg .neq 145 x y (.agg us) (.agg vs) = some (.b (!eqB us vs)) := (binA_flat fk145 ag145 (by kernel_rfl) hu hv).2
theorem lda145 {σ : List O} {r o : Nat} {st : List Nat} : loadA cfg 145 σ (.ptr r st o) = (rowAt σ r st).bind fun cs => (take? cs o 6).map V.agg := load_agg ag145 sz145 (by decide)
theorem sta145 {σ : List O} {r o : Nat} {st : List Nat} {us : List V} (hl : us.length = 6) (ho : us.all V.one = true) : storeA cfg 145 σ (.ptr r st o) (.agg us) = (rowAt σ r st).bind fun cs => if o + 6 ≤ cs.length then some (σ.set r (.cells st (splice cs o us))) else none := store_agg sz145 hl ho
theorem bd145 {parts : List (Nat × V)} : buildA cfg 145 parts = (partsAt (fun i => ([(0, 1), (1, 1), (2, 1), (3, 1), (4, 1), (5, 1)] : List (Nat × Nat))[i]?) parts).bind fun l => (fillA [(.i .i64 0), (.i .i64 0), (.i .i64 0), (.i .i64 0), (.i .i64 0), (.i .i64 0)] l).map V.agg := build_struct sh145 pl145 ze145
theorem fi145x0 : cfg.field 145 0 = some (0, 3) := by kernel_rfl
theorem fi145x1 : cfg.field 145 1 = some (1, 3) := by kernel_rfl
theorem fi145x2 : cfg.field 145 2 = some (2, 3) := by kernel_rfl
theorem fi145x3 : cfg.field 145 3 = some (3, 3) := by kernel_rfl
theorem fi145x4 : cfg.field 145 4 = some (4, 3) := by kernel_rfl
theorem fi145x5 : cfg.field 145 5 = some (5, 3) := by kernel_rfl
theorem ipi153 {r o : Nat} {i : Int} {st : List Nat} {k : IntKind} (h0 : 0 ≤ i) (h1 : i < 128) : indexAddrA cfg 153 (.ptr r st o) (.i k i) = some (.ptr r st (o + i.toNat * 1)) := ipi (m := 128) sh153 sz5 h0 h1
theorem ixv153 {i : Int} {cs : List V} {k : IntKind} (h0 : 0 ≤ i) (h1 : i < 128) : indexA cfg 153 (.agg cs) (.i k i) = cs[i.toNat]? := ixv (m := 128) sh153 sz5 ag5 h0 h1
theorem eq153 {x y : Operand} {us vs : List V} (hu : us.map V.fk = (List.replicate 128 (.i .u8) : List Fk).map some) (hv : vs.map V.fk = (List.replicate 128 (.i .u8) : List Fk).map some) : binA cfg .eql 153 x y (.agg us) (.agg vs) = some (.b (eqB us vs)) := (binA_flat fk153 ag153 (by kernel_rfl) hu hv).1
theorem ne153 {x y : Operand} {us vs : List V} (hu : us.map V.fk = (List.replicate 128 (.i .u8) : List Fk).map some) (hv : vs.map V.fk = (List.replicate 128 (.i .u8) : List Fk).map some) : binA cfg .neq 153 x y (.agg us) (.agg vs) = some (.b (!eqB us vs)) := (binA_flat fk153 ag153 (by kernel_rfl) hu hv).2
theorem lda153 {σ : List O} {r o : Nat} {st : List Nat} : loadA cfg 153 σ (.ptr r st o) = (rowAt σ r st).bind fun cs => (take? cs o 128).map V.agg := load_agg ag153 sz153 (by decide)
theorem sta153 {σ : List O} {r o : Nat} {st : List Nat} {us : List V} (hl : us.length = 128) (ho : us.all V.one = true) : storeA cfg 153 σ (.ptr r st o) (.agg us) = (rowAt σ r st).bind fun cs => if o + 128 ≤ cs.length then some (σ.set r (.cells st (splice cs o us))) else none := store_agg sz153 hl ho
theorem bd153 {parts : List (Nat × V)} : buildA cfg 153 parts = (partsAt (fun i => some (i * 1, 1)) parts).bind fun l => (fillA [(.i .u8 0), (.i .u8 0), (.i .u8 0), (.i .u8 0), (.i .u8 0), (.i .u8 0), (.i .u8 0), (.i .u8 0), (.i .u8 0), (.i .u8 0), (.i .u8 0), (.i .u8 0), (.i .u8 0), (.i .u8 0), (.i .u8 0), (.i .u8 0), (.i .u8 0), (.i .u8 0), (.i .u8 0), (.i .u8 0), (.i .u8 0), (.i .u8 0), (.i .u8 0), (.i .u8 0), (.i .u8 0), (.i .u8 0), (.i .u8 0), (.i .u8 0), (.i .u8 0), (.i .u8 0), (.i .u8 0), (.i .u8 0), (.i .u8 0), (.i .u8 0), (.i .u8 0), (.i .u8 0), (.i .u8 0), (.i .u8 0), (.i .u8 0), (.i .u8 0), (.i .u8 0), (.i .u8 0), (.i .u8 0), (.i .u8 0), (.i .u8 0), (.i .u8 0), (.i .u8 0), (.i .u8 0), (.i .u8 0), (.i .u8 0), (.i .u8 0), (.i .u8 0), (.i .u8 0), (.i .u8 0), (.i .u8 0), (.i .u8 0), (.i .u8 0), (.i .u8 0), (.i .u8 0), (.i .u8 0), (.i .u8 0), (.i .u8 0), (.i .u8 0), (.i .u8 0), (.i .u8 0), (.i .u8 0), (.i .u8 0), (.i .u8 0), (.i .u8 0), (.i .u8 0), (.i .u8 0), (.i .u8 0), (.i .u8 0), (.i .u8 0), (.i .u8 0), (.i .u8 0), (.i .u8 0), (.i .u8 0), (.i .u8 0), (.i .u8 0), (.i .u8 0), (.i .u8 0), (.i .u8 0), (.i .u8 0), (.i .u8 0), (.i .u8 0), (.i .u8 0), (.i .u8 0), (.i .u8 0), (.i .u8 0), (.i .u8 0), (.i .u8 0), (.i .u8 0), (.i .u8 0), (.i .u8 0), (.i .u8 0), (.i .u8 0), (.i .u8 0), (.i .u8 0), (.i .u8 0), (.i .u8 0), (.i .u8 0), (.i .u8 0), (.i .u8 0), (.i .u8 0), (.i .u8 0), (.i .u8 0), (.i .u8 0), (.i .u8 0), (.i .u8 0), (.i .u8 0), (.i .u8 0), (.i .u8 0), (.i .u8 0), (.i .u8 0), (.i .u8 0), (.i .u8 0), (.i .u8 0), (.i .u8 0), (.i .u8 0), (.i .u8 0), (.i .u8 0), (.i .u8 0), (.i .u8 0), (.i .u8 0), (.i .u8 0), (.i .u8 0), (.i .u8 0)] l).map V.agg := build_array sh153 sz5 ze153
theorem eq155 {x y : Operand} {us vs : List V} (hu : us.map V.fk = (List.replicate 128 (.i .u8) ++ [.b, .b] : List Fk).map some) (hv : vs.map V.fk = (List.replicate 128 (.i .u8) ++ [.b, .b] : List Fk).map some) : binA cfg .eql 155 x y (.agg us) (.agg vs) = some (.b (eqB us vs)) := (binA_flat fk155 ag155 (by kernel_rfl) hu hv).1
theorem ne155 {x y : Operand} {us vs : List V} (hu : us.map V.fk = (List.replicate 128 (.i .u8) ++ [.b, .b] : List Fk).map some) (hv : vs.map V.fk = (List.replicate 128 (.i .u8) ++ [.b, .b] : List Fk).map some) : binA cfg .neq 155 x y (.agg us) (.agg vs) = some (.b (!eqB us vs)) := (binA_flat fk155 ag155 (by kernel_rfl) hu hv).2
theorem lda155 {σ : List O} {r o : Nat} {st : List Nat} : loadA cfg 155 σ (.ptr r st o) = (rowAt σ r st).bind fun cs => (take? cs o 130).map V.agg := load_agg ag155 sz155 (by decide)
theorem sta155 {σ : List O} {r o : Nat} {st : List Nat} {us : List V} (hl : us.length = 130) (ho : us.all V.one = true) : storeA cfg 155 σ (.ptr r st o) (.agg us) = (rowAt σ r st).bind fun cs => if o + 130 ≤ cs.length then some (σ.set r (.cells st (splice cs o us))) else none := store_agg sz155 hl ho
theorem bd155 {parts : List (Nat × V)} : buildA cfg 155 parts = (partsAt (fun i => ([(0, 128), (128, 1), (129, 1)] : List (Nat × Nat))[i]?) parts).bind fun l => (fillA [(.i .u8 0), (.i .u8 0), (.i .u8 0), (.i .u8 0), (.i .u8 0), (.i .u8 0), (.i .u8 0), (.i .u8 0), (.i .u8 0), (.i .u8 0), (.i .u8 0), (.i .u8 0), (.i .u8 0), (.i .u8 0), (.i .u8 0), (.i .u8 0), (.i .u8 0), (.i .u8 0), (.i .u8 0), (.i .u8 0), (.i .u8 0), (.i .u8 0), (.i .u8 0), (.i .u8 0), (.i .u8 0), (.i .u8 0), (.i .u8 0), (.i .u8 0), (.i .u8 0), (.i .u8 0), (.i .u8 0), (.i .u8 0), (.i .u8 0), (.i .u8 0), (.i .u8 0), (.i .u8 0), (.i .u8 0), (.i .u8 0), (.i .u8 0), (.i .u8 0), (.i .u8 0), (.i .u8 0), (.i .u8 0), (.i .u8 0), (.i .u8 0), (.i .u8 0), (.i .u8 0), (.i .u8 0), (.i .u8 0), (.i .u8 0), (.i .u8 0), (.i .u8 0), (.i .u8 0), (.i .u8 0), (.i .u8 0), (.i .u8 0), (.i .u8 0), (.i .u8 0), (.i .u8 0), (.i .u8 0), (.i .u8 0), (.i .u8 0), (.i .u8 0), (.i .u8 0), (.i .u8 0), (.i .u8 0), (.i .u8 0), (.i .u8 0), (.i .u8 0), (.i .u8 0), (.i .u8 0), (.i .u8 0), (.i .u8 0), (.i .u8 0), (.i .u8 0), (.i .u8 0), (.i .u8 0), (.i .u8 0), (.i .u8 0), (.i .u8 0), (.i .u8 0), (.i .u8 0), (.i .u8 0), (.i .u8 0), (.i .u8 0), (.i .u8 0), (.i .u8 0), (.i .u8 0), (.i .u8 0), (.i .u8 0), (.i .u8 0), (.i .u8 0), (.i .u8 0), (.i .u8 0), (.i .u8 0), (.i .u8 0), (.i .u8 0), (.i .u8 0), (.i .u8 0), (.i .u8 0), (.i .u8 0), (.i .u8 0), (.i .u8 0), (.i .u8 0), (.i .u8 0), (.i .u8 0), (.i .u8 0), (.i .u8 0), (.i .u8 0), (.i .u8 0), (.i .u8 0), (.i .u8 0), (.i .u8 0), (.i .u8 0), (.i .u8 0), (.i .u8 0), (.i .u8 0), (.i .u8 0), (.i .u8 0), (.i .u8 0), (.i .u8 0), (.i .u8 0), (.i .u8 0), (.i .u8 0), (.i .u8 0), (.i .u8 0), (.i .u8 0), (.i .u8 0), (.b false), (.b false)] l).map V.agg := build_struct sh155 pl155 ze155
theorem fi155x0 : cfg.field 155 0 = some (0, 153) := by kernel_rfl
theorem fi155x1 : cfg.field 155 1 = some (128, 4) := by kernel_rfl
theorem fi155x2 : cfg.field 155 2 = some (129, 4) := by kernel_rfl
theorem eq157 {x y : Operand} {us vs : List V} (hu : us.map V.fk = ([(.i .i64)] ++ List.replicate 128 (.i .u8) : List Fk).map some) (hv : vs.map V.fk = ([(.i .i64)] ++ List.replicate 128 (.i .u8) : List Fk).map some) : binA cfg .eql 157 x y (.agg us) (.agg vs) = some (.b (eqB us vs)) := (binA_flat fk157 ag157 (by kernel_rfl) hu hv).1
theorem ne157 {x y : Operand} {us vs : List V} (hu : us.map V.fk = ([(.i .i64)] ++ List.replicate 128 (.i .u8) : List Fk).map some) (hv : vs.map V.fk = ([(.i .i64)] ++ List.replicate 128 (.i .u8) : List Fk).map some) : binA cfg .neq 157 x y (.agg us) (.agg vs) = some (.b (!eqB us vs)) := (binA_flat fk157 ag157 (by kernel_rfl) hu hv).2
theorem lda157 {σ : List O} {r o : Nat} {st : List Nat} : loadA cfg 157 σ (.ptr r st o) = (rowAt σ r st).bind fun cs => (take? cs o 129).map V.agg := load_agg ag157 sz157 (by decide)
theorem sta157 {σ : List O} {r o : Nat} {st : List Nat} {us : List V} (hl : us.length = 129) (ho : us.all V.one = true) : storeA cfg 157 σ (.ptr r st o) (.agg us) = (rowAt σ r st).bind fun cs => if o + 129 ≤ cs.length then some (σ.set r (.cells st (splice cs o us))) else none := store_agg sz157 hl ho
theorem bd157 {parts : List (Nat × V)} : buildA cfg 157 parts = (partsAt (fun i => ([(0, 1), (1, 128)] : List (Nat × Nat))[i]?) parts).bind fun l => (fillA [(.i .i64 0), (.i .u8 0), (.i .u8 0), (.i .u8 0), (.i .u8 0), (.i .u8 0), (.i .u8 0), (.i .u8 0), (.i .u8 0), (.i .u8 0), (.i .u8 0), (.i .u8 0), (.i .u8 0), (.i .u8 0), (.i .u8 0), (.i .u8 0), (.i .u8 0), (.i .u8 0), (.i .u8 0), (.i .u8 0), (.i .u8 0), (.i .u8 0), (.i .u8 0), (.i .u8 0), (.i .u8 0), (.i .u8 0), (.i .u8 0), (.i .u8 0), (.i .u8 0), (.i .u8 0), (.i .u8 0), (.i .u8 0), (.i .u8 0), (.i .u8 0), (.i .u8 0), (.i .u8 0), (.i .u8 0), (.i .u8 0), (.i .u8 0), (.i .u8 0), (.i .u8 0), (.i .u8 0), (.i .u8 0), (.i .u8 0), (.i .u8 0), (.i .u8 0), (.i .u8 0), (.i .u8 0), (.i .u8 0), (.i .u8 0), (.i .u8 0), (.i .u8 0), (.i .u8 0), (.i .u8 0), (.i .u8 0), (.i .u8 0), (.i .u8 0), (.i .u8 0), (.i .u8 0), (.i .u8 0), (.i .u8 0), (.i .u8 0), (.i .u8 0), (.i .u8 0), (.i .u8 0), (.i .u8 0), (.i .u8 0), (.i .u8 0), (.i .u8 0), (.i .u8 0), (.i .u8 0), (.i .u8 0), (.i .u8 0), (.i .u8 0), (.i .u8 0), (.i .u8 0), (.i .u8 0), (.i .u8 0), (.i .u8 0), (.i .u8 0), (.i .u8 0), (.i .u8 0), (.i .u8 0), (.i .u8 0), (.i .u8 0), (.i .u8 0), (.i .u8 0), (.i .u8 0), (.i .u8 0), (.i .u8 0), (.i .u8 0), (.i .u8 0), (.i .u8 0), (.i .u8 0), (.i .u8 0), (.i .u8 0), (.i .u8 0), (.i .u8 0), (.i .u8 0), (.i .u8 0), (.i .u8 0), (.i .u8 0), (.i .u8 0), (.i .u8 0), (.i .u8 0), (.i .u8 0), (.i .u8 0), (.i .u8 0), (.i .u8 0), (.i .u8 0), (.i .u8 0), (.i .u8 0), (.i .u8 0), (.i .u8 0), (.i .u8 0), (.i .u8 0), (.i .u8 0), (.i .u8 0), (.i .u8 0), (.i .u8 0), (.i .u8 0), (.i .u8 0), (.i .u8 0), (.i .u8 0), (.i .u8 0), (.i .u8 0), (.i .u8 0), (.i .u8 0), (.i .u8 0)] l).map V.agg := build_struct sh157 pl157 ze157
theorem fi157x0 : cfg.field 157 0 = some (0, 3) := by kernel_rfl
theorem fi157x1 : cfg.field 157 1 = some (1, 153) := by kernel_rfl
theorem eq159 {x y : Operand} {us vs : List V} (hu : us.map V.fk = ([(.i .i64), (.i .i64)] : List Fk).map some) (hv : vs.map V.fk = ([(.i .i64), (.i .i64)] : List Fk).map some) : binA cfg .eql 159 x y (.agg us) (.agg vs) = some (.b (eqB us vs)) := (binA_flat fk159 ag159 (by kernel_rfl) hu hv).1
theorem ne159 {x y : Operand} {us vs : List V} (hu : us.map V.fk = ([(.i .i64), (.i .i64)] : List Fk).map some) (hv : vs.map V.fk = ([(.i .i64), (.i .i64)] : List Fk).map some) : binA cfg .neq 159 x y (.agg us) (.agg vs) = some (.b (!eqB us vs)) := (binA_flat fk159 ag159 (by kernel_rfl) hu hv).2
theorem lda159 {σ : List O} {r o : Nat} {st : List Nat} : loadA cfg 159 σ (.ptr r st o) = (rowAt σ r st).bind fun cs => (take? cs o 2).map V.agg := load_agg ag159 sz159 (by decide)
theorem sta159 {σ : List O} {r o : Nat} {st : List Nat} {us : List V} (hl : us.length = 2) (ho : us.all V.one = true) : storeA cfg 159 σ (.ptr r st o) (.agg us) = (rowAt σ r st).bind fun cs => if o + 2 ≤ cs.length then some (σ.set r (.cells st (splice cs o us))) else none := store_agg sz159 hl ho
theorem bd159 {parts : List (Nat × V)} : buildA cfg 159 parts = (partsAt (fun i => ([(0, 1), (1, 1)] : List (Nat × Nat))[i]?) parts).bind fun l => (fillA [(.i .i64 0), (.i .i64 0)] l).map V.agg := build_struct sh159 pl159 ze159
theorem fi159x0 : cfg.field 159 0 = some (0, 3) := by kernel_rfl
theorem fi159x1 : cfg.field 159 1 = some (1, 3) := by kernel_rfl
theorem ld170 {σ : List O} {r o : Nat} {st : List Nat} : loadA cfg 170 σ (.ptr r st o) = (rowAt σ r st).bind fun cs => cs[o]? := load_sc ag170
theorem li170 {σ : List O} {cs : List V} : loadA cfg 170 σ (.iptr cs) = cs[0]? := load_ip ag170
theorem sto170 {σ : List O} {r o : Nat} {st : List Nat} {v : V} (hv : v.one = true) : storeA cfg 170 σ (.ptr r st o) v = (rowAt σ r st).bind fun cs => if o < cs.length then some (σ.set r (.cells st (cs.set o v))) else none := store_sc sz170 hv
theorem ipi171 {r o : Nat} {i : Int} {st : List Nat} {k : IntKind} (h0 : 0 ≤ i) (h1 : i < 2) : indexAddrA cfg 171 (.ptr r st o) (.i k i) = some (.ptr r st (o + i.toNat * 1)) := ipi (m := 2) sh171 sz170 h0 h1
theorem ixv171 {i : Int} {cs : List V} {k : IntKind} (h0 : 0 ≤ i) (h1 : i < 2) : indexA cfg 171 (.agg cs) (.i k i) = cs[i.toNat]? := ixv (m := 2) sh171 sz170 ag170 h0 h1
theorem lda171 {σ : List O} {r o : Nat} {st : List Nat} : loadA cfg 171 σ (.ptr r st o) = (rowAt σ r st).bind fun cs => (take? cs o 2).map V.agg := load_agg ag171 sz171 (by decide)
theorem sta171 {σ : List O} {r o : Nat} {st : List Nat} {us : List V} (hl : us.length = 2) (ho : us.all V.one = true) : storeA cfg 171 σ (.ptr r st o) (.agg us) = (rowAt σ r st).bind fun cs => if o + 2 ≤ cs.length then some (σ.set r (.cells st (splice cs o us))) else none := store_agg sz171 hl ho
theorem bd171 {parts : List (Nat × V)} : buildA cfg 171 parts = (partsAt (fun i => some (i * 1, 1)) parts).bind fun l => (fillA [.nilm, .nilm] l).map V.agg := build_array sh171 sz170 ze171
theorem ld176 {σ : List O} {r o : Nat} {st : List Nat} : loadA cfg 176 σ (.ptr r st o) = (rowAt σ r st).bind fun cs => cs[o]? := load_sc ag176
theorem li176 {σ : List O} {cs : List V} : loadA cfg 176 σ (.iptr cs) = cs[0]? := load_ip ag176
theorem sto176 {σ : List O} {r o : Nat} {st : List Nat} {v : V} (hv : v.one = true) : storeA cfg 176 σ (.ptr r st o) v = (rowAt σ r st).bind fun cs => if o < cs.length then some (σ.set r (.cells st (cs.set o v))) else none := store_sc sz176 hv
theorem lda178 {σ : List O} {r o : Nat} {st : List Nat} : loadA cfg 178 σ (.ptr r st o) = (rowAt σ r st).bind fun cs => (take? cs o 2).map V.agg := load_agg ag178 sz178 (by decide)
theorem sta178 {σ : List O} {r o : Nat} {st : List Nat} {us : List V} (hl : us.length = 2) (ho : us.all V.one = true) : storeA cfg 178 σ (.ptr r st o) (.agg us) = (rowAt σ r st).bind fun cs => if o + 2 ≤ cs.length then some (σ.set r (.cells st (splice cs o us))) else none := store_agg sz178 hl ho
theorem bd178 {parts : List (Nat × V)} : buildA cfg 178 parts = (partsAt (fun i => ([(0, 1), (1, 1)] : List (Nat × Nat))[i]?) parts).bind fun l => (fillA [.nilp, .nils] l).map V.agg := build_struct sh178 pl178 ze178
theorem fi178x0 : cfg.field 178 0 = some (0, 176) := by kernel_rfl
theorem fi178x1 : cfg.field 178 1 = some (1, 22) := by kernel_rfl
theorem ld186 {σ : List O} {r o : Nat} {st : List Nat} : loadA cfg 186 σ (.ptr r st o) = (rowAt σ r st).bind fun cs => cs[o]? := load_sc ag186
theorem li186 {σ : List O} {cs : List V} : loadA cfg 186 σ (.iptr cs) = cs[0]? := load_ip ag186
theorem sto186 {σ : List O} {r o : Nat} {st : List Nat} {v : V} (hv : v.one = true) : storeA cfg 186 σ (.ptr r st o) v = (rowAt σ r st).bind fun cs => if o < cs.length then some (σ.set r (.cells st (cs.set o v))) else none := store_sc sz186 hv
theorem ld193 {σ : List O} {r o : Nat} {st : List Nat} : loadA cfg 193 σ (.ptr r st o) = (rowAt σ r st).bind fun cs => cs[o]? := load_sc ag193
theorem li193 {σ : List O} {cs : List V} : loadA cfg 193 σ (.iptr cs) = cs[0]? := load_ip ag193
theorem sto193 {σ : List O} {r o : Nat} {st : List Nat} {v : V} (hv : v.one = true) : storeA cfg 193 σ (.ptr r st o) v = (rowAt σ r st).bind fun cs => if o < cs.length then some (σ.set r (.cells st (cs.set o v))) else none := store_sc sz193 hv
theorem ld199 {σ : List O} {r o : Nat} {st : List Nat} : loadA cfg 199 σ (.ptr r st o) = (rowAt σ r st).bind fun cs => cs[o]? := load_sc ag199
theorem li199 {σ : List O} {cs : List V} : loadA cfg 199 σ (.iptr cs) = cs[0]? := load_ip ag199
theorem sto199 {σ : List O} {r o : Nat} {st : List Nat} {v : V} (hv : v.one = true) : storeA cfg 199 σ (.ptr r st o) v = (rowAt σ r st).bind fun cs => if o < cs.length then some (σ.set r (.cells st (cs.set o v))) else none := store_sc sz199 hv
theorem ld200 {σ : List O} {r o : Nat} {st : List Nat} : loadA cfg 200 σ (.ptr r st o) = (rowAt σ r st).bind fun cs => cs[o]? := load_sc ag200
theorem li200 {σ : List O} {cs : List V} : loadA cfg 200 σ (.iptr cs) = cs[0]? := load_ip ag200
theorem sto200 {σ : List O} {r o : Nat} {st : List Nat} {v : V} (hv : v.one = true) : storeA cfg 200 σ (.ptr r st o) v = (rowAt σ r st).bind fun cs => if o < cs.length then some (σ.set r (.cells st (cs.set o v))) else none := store_sc sz200 hv
theorem ld208 {σ : List O} {r o : Nat} {st : List Nat} : loadA cfg 208 σ (.ptr r st o) = (rowAt σ r st).bind fun cs => cs[o]? := load_sc ag208
theorem li208 {σ : List O} {cs : List V} : loadA cfg 208 σ (.iptr cs) = cs[0]? := load_ip ag208
theorem sto208 {σ : List O} {r o : Nat} {st : List Nat} {v : V} (hv : v.one = true) : storeA cfg 208 σ (.ptr r st o) v = (rowAt σ r st).bind fun cs => if o < cs.length then some (σ.set r (.cells st (cs.set o v))) else none := store_sc sz208 hv
theorem dr7x6 {p : List Nat} {s : St} {Q : Ex → St → Prop} (l : List Oper) : Wq cfg 7 p (.region 6 l.toArray true) s Q = TrQ cfg p l.toArray l s [] fun tr s => ([(2, 3)] : List (Nat × Nat)).all (okPair tr) = true ∧ Q .normal s := Wp_drawT 6 l (show cfg.cls 7 6 = [(2, 3)] from rfl) (by decide)
theorem dr17x4 {p : List Nat} {s : St} {Q : Ex → St → Prop} (l : List Oper) : Wq cfg 17 p (.region 4 l.toArray true) s Q = TrQ cfg p l.toArray l s [] fun tr s => ([(1, 2), (7, 8)] : List (Nat × Nat)).all (okPair tr) = true ∧ Q .normal s := Wp_drawT 4 l (show cfg.cls 17 4 = [(1, 2), (7, 8)] from rfl) (by decide)
theorem dr27x3 {p : List Nat} {s : St} {Q : Ex → St → Prop} (l : List Oper) : Wq cfg 27 p (.region 3 l.toArray true) s Q = TrQ cfg p l.toArray l s [] fun tr s => ([(31, 2), (31, 3), (31, 6), (31, 7), (31, 10), (31, 11), (31, 14), (31, 15), (31, 18), (31, 19), (31, 22), (31, 23), (31, 26), (31, 27)] : List (Nat × Nat)).all (okPair tr) = true ∧ Q .normal s := Wp_drawT 3 l (show cfg.cls 27 3 = [(31, 2), (31, 3), (31, 6), (31, 7), (31, 10), (31, 11), (31, 14), (31, 15), (31, 18), (31, 19), (31, 22), (31, 23), (31, 26), (31, 27)] from rfl) (by decide)
theorem dr29x1 {p : List Nat} {s : St} {Q : Ex → St → Prop} (l : List Oper) : Wq cfg 29 p (.region 1 l.toArray true) s Q = TrQ cfg p l.toArray l s [] fun tr s => ([(2, 4), (2, 7), (5, 7)] : List (Nat × Nat)).all (okPair tr) = true ∧ Q .normal s := Wp_drawT 1 l (show cfg.cls 29 1 = [(2, 4), (2, 7), (5, 7)] from rfl) (by decide)
theorem dr39x5 {p : List Nat} {s : St} {Q : Ex → St → Prop} (l : List Oper) : Wq cfg 39 p (.region 5 l.toArray true) s Q = TrQ cfg p l.toArray l s [] fun tr s => ([(14, 20), (15, 20)] : List (Nat × Nat)).all (okPair tr) = true ∧ Q .normal s := Wp_drawT 5 l (show cfg.cls 39 5 = [(14, 20), (15, 20)] from rfl) (by decide)
theorem dr58x7 {p : List Nat} {s : St} {Q : Ex → St → Prop} (l : List Oper) : Wq cfg 58 p (.region 7 l.toArray true) s Q = TrQ cfg p l.toArray l s [] fun tr s => ([(4, 8)] : List (Nat × Nat)).all (okPair tr) = true ∧ Q .normal s := Wp_drawT 7 l (show cfg.cls 58 7 = [(4, 8)] from rfl) (by decide)
theorem dr59x6 {p : List Nat} {s : St} {Q : Ex → St → Prop} (l : List Oper) : Wq cfg 59 p (.region 6 l.toArray true) s Q = TrQ cfg p l.toArray l s [] fun tr s => ([(6, 9), (6, 12)] : List (Nat × Nat)).all (okPair tr) = true ∧ Q .normal s := Wp_drawT 6 l (show cfg.cls 59 6 = [(6, 9), (6, 12)] from rfl) (by decide)
theorem dr60x6 {p : List Nat} {s : St} {Q : Ex → St → Prop} (l : List Oper) : Wq cfg 60 p (.region 6 l.toArray true) s Q = TrQ cfg p l.toArray l s [] fun tr s => ([(11, 6), (11, 8)] : List (Nat × Nat)).all (okPair tr) = true ∧ Q .normal s := Wp_drawT 6 l (show cfg.cls 60 6 = [(11, 6), (11, 8)] from rfl) (by decide)
theorem dr61x6 {p : List Nat} {s : St} {Q : Ex → St → Prop} (l : List Oper) : Wq cfg 61 p (.region 6 l.toArray true) s Q = TrQ cfg p l.toArray l s [] fun tr s => ([(9, 3), (9, 5), (9, 7), (11, 5), (11, 7), (13, 7)] : List (Nat × Nat)).all (okPair tr) = true ∧ Q .normal s := Wp_drawT 6 l (show cfg.cls 61 6 = [(9, 3), (9, 5), (9, 7), (11, 5), (11, 7), (13, 7)] from rfl) (by decide)
theorem dr61x9 {p : List Nat} {s : St} {Q : Ex → St → Prop} (l : List Oper) : Wq cfg 61 p (.region 9 l.toArray true) s Q = TrQ cfg p l.toArray l s [] fun tr s => ([(7, 3), (7, 5), (9, 5)] : List (Nat × Nat)).all (okPair tr) = true ∧ Q .normal s := Wp_drawT 9 l (show cfg.cls 61 9 = [(7, 3), (7, 5), (9, 5)] from rfl) (by decide)
theorem dr61x13 {p : List Nat} {s : St} {Q : Ex → St → Prop} (l : List Oper) : Wq cfg 61 p (.region 13 l.toArray true) s Q = TrQ cfg p l.toArray l s [] fun tr s => ([(5, 3)] : List (Nat × Nat)).all (okPair tr) = true ∧ Q .normal s := Wp_drawT 13 l (show cfg.cls 61 13 = [(5, 3)] from rfl) (by decide)
theorem dr61x16 {p : List Nat} {s : St} {Q : Ex → St → Prop} (l : List Oper) : Wq cfg 61 p (.region 16 l.toArray true) s Q = TrQ cfg p l.toArray l s [] fun tr s => ([(9, 3), (9, 5), (9, 7), (11, 5), (11, 7), (13, 7)] : List (Nat × Nat)).all (okPair tr) = true ∧ Q .normal s := Wp_drawT 16 l (show cfg.cls 61 16 = [(9, 3), (9, 5), (9, 7), (11, 5), (11, 7), (13, 7)] from rfl) (by decide)
theorem dr61x19 {p : List Nat} {s : St} {Q : Ex → St → Prop} (l : List Oper) : Wq cfg 61 p (.region 19 l.toArray true) s Q = TrQ cfg p l.toArray l s [] fun tr s => ([(7, 3), (7, 5), (9, 5)] : List (Nat × Nat)).all (okPair tr) = true ∧ Q .normal s := Wp_drawT 19 l (show cfg.cls 61 19 = [(7, 3), (7, 5), (9, 5)] from rfl) (by decide)
theorem dr61x22 {p : List Nat} {s : St} {Q : Ex → St → Prop} (l : List Oper) : Wq cfg 61 p (.region 22 l.toArray true) s Q = TrQ cfg p l.toArray l s [] fun tr s => ([(5, 3)] : List (Nat × Nat)).all (okPair tr) = true ∧ Q .normal s := Wp_drawT 22 l (show cfg.cls 61 22 = [(5, 3)] from rfl) (by decide)
theorem dr61x25 {p : List Nat} {s : St} {Q : Ex → St → Prop} (l : List Oper) : Wq cfg 61 p (.region 25 l.toArray true) s Q = TrQ cfg p l.toArray l s [] fun tr s => ([(5, 3)] : List (Nat × Nat)).all (okPair tr) = true ∧ Q .normal s := Wp_drawT 25 l (show cfg.cls 61 25 = [(5, 3)] from rfl) (by decide)
theorem dr65x2 {p : List Nat} {s : St} {Q : Ex → St → Prop} (l : List Oper) : Wq cfg 65 p (.region 2 l.toArray true) s Q = TrQ cfg p l.toArray l s [] fun tr s => ([(5, 8), (6, 8)] : List (Nat × Nat)).all (okPair tr) = true ∧ Q .normal s := Wp_drawT 2 l (show cfg.cls 65 2 = [(5, 8), (6, 8)] from rfl) (by decide)
theorem dr65x3 {p : List Nat} {s : St} {Q : Ex → St → Prop} (l : List Oper) : Wq cfg 65 p (.region 3 l.toArray true) s Q = TrQ cfg p l.toArray l s [] fun tr s => ([(5, 8), (6, 8)] : List (Nat × Nat)).all (okPair tr) = true ∧ Q .normal s := Wp_drawT 3 l (show cfg.cls 65 3 = [(5, 8), (6, 8)] from rfl) (by decide)
theorem dr65x4 {p : List Nat} {s : St} {Q : Ex → St → Prop} (l : List Oper) : Wq cfg 65 p (.region 4 l.toArray true) s Q = TrQ cfg p l.toArray l s [] fun tr s => ([(11, 14), (12, 14)] : List (Nat × Nat)).all (okPair tr) = true ∧ Q .normal s := Wp_drawT 4 l (show cfg.cls 65 4 = [(11, 14), (12, 14)] from rfl) (by decide)
theorem dr78x2 {p : List Nat} {s : St} {Q : Ex → St → Prop} (l : List Oper) : Wq cfg 78 p (.region 2 l.toArray true) s Q = TrQ cfg p l.toArray l s [] fun tr s => ([(24, 22)] : List (Nat × Nat)).all (okPair tr) = true ∧ Q .normal s := Wp_drawT 2 l (show cfg.cls 78 2 = [(24, 22)] from rfl) (by decide)
theorem dr115x11 {p : List Nat} {s : St} {Q : Ex → St → Prop} (l : List Oper) : Wq cfg 115 p (.region 11 l.toArray true) s Q = TrQ cfg p l.toArray l s [] fun tr s => ([(8, 5), (8, 7)] : List (Nat × Nat)).all (okPair tr) = true ∧ Q .normal s := Wp_drawT 11 l (show cfg.cls 115 11 = [(8, 5), (8, 7)] from rfl) (by decide)
theorem dr175x0 {p : List Nat} {s : St} {Q : Ex → St → Prop} (l : List Oper) : Wq cfg 175 p (.region 0 l.toArray true) s Q = TrQ cfg p l.toArray l s [] fun tr s => ([(8, 12), (8, 13)] : List (Nat × Nat)).all (okPair tr) = true ∧ Q .normal s := Wp_drawT 0 l (show cfg.cls 175 0 = [(8, 12), (8, 13)] from rfl) (by decide)
end Go.Am.R1

/- More facts of types. -/
namespace Go.Am.R1
open Go.Proofs
set_option maxRecDepth 100000
set_option linter.unusedVariables false
set_option linter.unusedSimpArgs false
theorem dr36x6 {p : List Nat} {s : St} {Q : Ex → St → Prop} (l : List Oper) : Wq cfg 36 p (.region 6 l.toArray true) s Q = Ops cfg p l.toArray l s (Q .normal) := Wp_draw 6 l (show cfg.cls 36 6 = [] from rfl)
theorem dr37x4 {p : List Nat} {s : St} {Q : Ex → St → Prop} (l : List Oper) : Wq cfg 37 p (.region 4 l.toArray true) s Q = Ops cfg p l.toArray l s (Q .normal) := Wp_draw 4 l (show cfg.cls 37 4 = [] from rfl)
theorem dr38x6 {p : List Nat} {s : St} {Q : Ex → St → Prop} (l : List Oper) : Wq cfg 38 p (.region 6 l.toArray true) s Q = Ops cfg p l.toArray l s (Q .normal) := Wp_draw 6 l (show cfg.cls 38 6 = [] from rfl)
theorem dr40x6 {p : List Nat} {s : St} {Q : Ex → St → Prop} (l : List Oper) : Wq cfg 40 p (.region 6 l.toArray true) s Q = Ops cfg p l.toArray l s (Q .normal) := Wp_draw 6 l (show cfg.cls 40 6 = [] from rfl)
theorem dr41x7 {p : List Nat} {s : St} {Q : Ex → St → Prop} (l : List Oper) : Wq cfg 41 p (.region 7 l.toArray true) s Q = Ops cfg p l.toArray l s (Q .normal) := Wp_draw 7 l (show cfg.cls 41 7 = [] from rfl)
theorem dr43x17 {p : List Nat} {s : St} {Q : Ex → St → Prop} (l : List Oper) : Wq cfg 43 p (.region 17 l.toArray true) s Q = Ops cfg p l.toArray l s (Q .normal) := Wp_draw 17 l (show cfg.cls 43 17 = [] from rfl)
theorem dr48x6 {p : List Nat} {s : St} {Q : Ex → St → Prop} (l : List Oper) : Wq cfg 48 p (.region 6 l.toArray true) s Q = Ops cfg p l.toArray l s (Q .normal) := Wp_draw 6 l (show cfg.cls 48 6 = [] from rfl)
theorem dr52x12 {p : List Nat} {s : St} {Q : Ex → St → Prop} (l : List Oper) : Wq cfg 52 p (.region 12 l.toArray true) s Q = Ops cfg p l.toArray l s (Q .normal) := Wp_draw 12 l (show cfg.cls 52 12 = [] from rfl)
theorem dr53x13 {p : List Nat} {s : St} {Q : Ex → St → Prop} (l : List Oper) : Wq cfg 53 p (.region 13 l.toArray true) s Q = Ops cfg p l.toArray l s (Q .normal) := Wp_draw 13 l (show cfg.cls 53 13 = [] from rfl)
theorem dr62x6 {p : List Nat} {s : St} {Q : Ex → St → Prop} (l : List Oper) : Wq cfg 62 p (.region 6 l.toArray true) s Q = Ops cfg p l.toArray l s (Q .normal) := Wp_draw 6 l (show cfg.cls 62 6 = [] from rfl)
theorem dr64x11 {p : List Nat} {s : St} {Q : Ex → St → Prop} (l : List Oper) : Wq cfg 64 p (.region 11 l.toArray true) s Q = Ops cfg p l.toArray l s (Q .normal) := Wp_draw 11 l (show cfg.cls 64 11 = [] from rfl)
theorem dr82x6 {p : List Nat} {s : St} {Q : Ex → St → Prop} (l : List Oper) : Wq cfg 82 p (.region 6 l.toArray true) s Q = Ops cfg p l.toArray l s (Q .normal) := Wp_draw 6 l (show cfg.cls 82 6 = [] from rfl)
theorem dr82x11 {p : List Nat} {s : St} {Q : Ex → St → Prop} (l : List Oper) : Wq cfg 82 p (.region 11 l.toArray true) s Q = Ops cfg p l.toArray l s (Q .normal) := Wp_draw 11 l (show cfg.cls 82 11 = [] from rfl)
theorem dr83x6 {p : List Nat} {s : St} {Q : Ex → St → Prop} (l : List Oper) : Wq cfg 83 p (.region 6 l.toArray true) s Q = Ops cfg p l.toArray l s (Q .normal) := Wp_draw 6 l (show cfg.cls 83 6 = [] from rfl)
theorem dr88x11 {p : List Nat} {s : St} {Q : Ex → St → Prop} (l : List Oper) : Wq cfg 88 p (.region 11 l.toArray true) s Q = Ops cfg p l.toArray l s (Q .normal) := Wp_draw 11 l (show cfg.cls 88 11 = [] from rfl)
theorem dr88x15 {p : List Nat} {s : St} {Q : Ex → St → Prop} (l : List Oper) : Wq cfg 88 p (.region 15 l.toArray true) s Q = Ops cfg p l.toArray l s (Q .normal) := Wp_draw 15 l (show cfg.cls 88 15 = [] from rfl)
theorem dr90x5 {p : List Nat} {s : St} {Q : Ex → St → Prop} (l : List Oper) : Wq cfg 90 p (.region 5 l.toArray true) s Q = Ops cfg p l.toArray l s (Q .normal) := Wp_draw 5 l (show cfg.cls 90 5 = [] from rfl)
theorem dr95x7 {p : List Nat} {s : St} {Q : Ex → St → Prop} (l : List Oper) : Wq cfg 95 p (.region 7 l.toArray true) s Q = Ops cfg p l.toArray l s (Q .normal) := Wp_draw 7 l (show cfg.cls 95 7 = [] from rfl)
theorem dr105x6 {p : List Nat} {s : St} {Q : Ex → St → Prop} (l : List Oper) : Wq cfg 105 p (.region 6 l.toArray true) s Q = Ops cfg p l.toArray l s (Q .normal) := Wp_draw 6 l (show cfg.cls 105 6 = [] from rfl)
theorem dr105x11 {p : List Nat} {s : St} {Q : Ex → St → Prop} (l : List Oper) : Wq cfg 105 p (.region 11 l.toArray true) s Q = Ops cfg p l.toArray l s (Q .normal) := Wp_draw 11 l (show cfg.cls 105 11 = [] from rfl)
theorem dr110x5 {p : List Nat} {s : St} {Q : Ex → St → Prop} (l : List Oper) : Wq cfg 110 p (.region 5 l.toArray true) s Q = Ops cfg p l.toArray l s (Q .normal) := Wp_draw 5 l (show cfg.cls 110 5 = [] from rfl)
theorem dr120x4 {p : List Nat} {s : St} {Q : Ex → St → Prop} (l : List Oper) : Wq cfg 120 p (.region 4 l.toArray true) s Q = Ops cfg p l.toArray l s (Q .normal) := Wp_draw 4 l (show cfg.cls 120 4 = [] from rfl)
theorem dr121x13 {p : List Nat} {s : St} {Q : Ex → St → Prop} (l : List Oper) : Wq cfg 121 p (.region 13 l.toArray true) s Q = Ops cfg p l.toArray l s (Q .normal) := Wp_draw 13 l (show cfg.cls 121 13 = [] from rfl)
theorem dr128x3 {p : List Nat} {s : St} {Q : Ex → St → Prop} (l : List Oper) : Wq cfg 128 p (.region 3 l.toArray true) s Q = Ops cfg p l.toArray l s (Q .normal) := Wp_draw 3 l (show cfg.cls 128 3 = [] from rfl)
theorem dr131x17 {p : List Nat} {s : St} {Q : Ex → St → Prop} (l : List Oper) : Wq cfg 131 p (.region 17 l.toArray true) s Q = Ops cfg p l.toArray l s (Q .normal) := Wp_draw 17 l (show cfg.cls 131 17 = [] from rfl)
theorem dr152x3 {p : List Nat} {s : St} {Q : Ex → St → Prop} (l : List Oper) : Wq cfg 152 p (.region 3 l.toArray true) s Q = Ops cfg p l.toArray l s (Q .normal) := Wp_draw 3 l (show cfg.cls 152 3 = [] from rfl)
theorem dr154x1 {p : List Nat} {s : St} {Q : Ex → St → Prop} (l : List Oper) : Wq cfg 154 p (.region 1 l.toArray true) s Q = Ops cfg p l.toArray l s (Q .normal) := Wp_draw 1 l (show cfg.cls 154 1 = [] from rfl)
theorem dr155x4 {p : List Nat} {s : St} {Q : Ex → St → Prop} (l : List Oper) : Wq cfg 155 p (.region 4 l.toArray true) s Q = Ops cfg p l.toArray l s (Q .normal) := Wp_draw 4 l (show cfg.cls 155 4 = [] from rfl)
theorem dr155x6 {p : List Nat} {s : St} {Q : Ex → St → Prop} (l : List Oper) : Wq cfg 155 p (.region 6 l.toArray true) s Q = Ops cfg p l.toArray l s (Q .normal) := Wp_draw 6 l (show cfg.cls 155 6 = [] from rfl)
theorem dr156x10 {p : List Nat} {s : St} {Q : Ex → St → Prop} (l : List Oper) : Wq cfg 156 p (.region 10 l.toArray true) s Q = Ops cfg p l.toArray l s (Q .normal) := Wp_draw 10 l (show cfg.cls 156 10 = [] from rfl)
theorem dr157x10 {p : List Nat} {s : St} {Q : Ex → St → Prop} (l : List Oper) : Wq cfg 157 p (.region 10 l.toArray true) s Q = Ops cfg p l.toArray l s (Q .normal) := Wp_draw 10 l (show cfg.cls 157 10 = [] from rfl)
theorem dr159x3 {p : List Nat} {s : St} {Q : Ex → St → Prop} (l : List Oper) : Wq cfg 159 p (.region 3 l.toArray true) s Q = Ops cfg p l.toArray l s (Q .normal) := Wp_draw 3 l (show cfg.cls 159 3 = [] from rfl)
theorem dr160x5 {p : List Nat} {s : St} {Q : Ex → St → Prop} (l : List Oper) : Wq cfg 160 p (.region 5 l.toArray true) s Q = Ops cfg p l.toArray l s (Q .normal) := Wp_draw 5 l (show cfg.cls 160 5 = [] from rfl)
theorem dr160x11 {p : List Nat} {s : St} {Q : Ex → St → Prop} (l : List Oper) : Wq cfg 160 p (.region 11 l.toArray true) s Q = Ops cfg p l.toArray l s (Q .normal) := Wp_draw 11 l (show cfg.cls 160 11 = [] from rfl)
theorem dr160x16 {p : List Nat} {s : St} {Q : Ex → St → Prop} (l : List Oper) : Wq cfg 160 p (.region 16 l.toArray true) s Q = Ops cfg p l.toArray l s (Q .normal) := Wp_draw 16 l (show cfg.cls 160 16 = [] from rfl)
theorem dr160x17 {p : List Nat} {s : St} {Q : Ex → St → Prop} (l : List Oper) : Wq cfg 160 p (.region 17 l.toArray true) s Q = Ops cfg p l.toArray l s (Q .normal) := Wp_draw 17 l (show cfg.cls 160 17 = [] from rfl)
theorem dr160x22 {p : List Nat} {s : St} {Q : Ex → St → Prop} (l : List Oper) : Wq cfg 160 p (.region 22 l.toArray true) s Q = Ops cfg p l.toArray l s (Q .normal) := Wp_draw 22 l (show cfg.cls 160 22 = [] from rfl)
theorem dr160x23 {p : List Nat} {s : St} {Q : Ex → St → Prop} (l : List Oper) : Wq cfg 160 p (.region 23 l.toArray true) s Q = Ops cfg p l.toArray l s (Q .normal) := Wp_draw 23 l (show cfg.cls 160 23 = [] from rfl)
theorem dr162x1 {p : List Nat} {s : St} {Q : Ex → St → Prop} (l : List Oper) : Wq cfg 162 p (.region 1 l.toArray true) s Q = Ops cfg p l.toArray l s (Q .normal) := Wp_draw 1 l (show cfg.cls 162 1 = [] from rfl)
theorem dr162x3 {p : List Nat} {s : St} {Q : Ex → St → Prop} (l : List Oper) : Wq cfg 162 p (.region 3 l.toArray true) s Q = Ops cfg p l.toArray l s (Q .normal) := Wp_draw 3 l (show cfg.cls 162 3 = [] from rfl)
theorem dr162x5 {p : List Nat} {s : St} {Q : Ex → St → Prop} (l : List Oper) : Wq cfg 162 p (.region 5 l.toArray true) s Q = Ops cfg p l.toArray l s (Q .normal) := Wp_draw 5 l (show cfg.cls 162 5 = [] from rfl)
theorem dr162x8 {p : List Nat} {s : St} {Q : Ex → St → Prop} (l : List Oper) : Wq cfg 162 p (.region 8 l.toArray true) s Q = Ops cfg p l.toArray l s (Q .normal) := Wp_draw 8 l (show cfg.cls 162 8 = [] from rfl)
theorem dr163x1 {p : List Nat} {s : St} {Q : Ex → St → Prop} (l : List Oper) : Wq cfg 163 p (.region 1 l.toArray true) s Q = Ops cfg p l.toArray l s (Q .normal) := Wp_draw 1 l (show cfg.cls 163 1 = [] from rfl)
theorem dr163x3 {p : List Nat} {s : St} {Q : Ex → St → Prop} (l : List Oper) : Wq cfg 163 p (.region 3 l.toArray true) s Q = Ops cfg p l.toArray l s (Q .normal) := Wp_draw 3 l (show cfg.cls 163 3 = [] from rfl)
theorem dr163x5 {p : List Nat} {s : St} {Q : Ex → St → Prop} (l : List Oper) : Wq cfg 163 p (.region 5 l.toArray true) s Q = Ops cfg p l.toArray l s (Q .normal) := Wp_draw 5 l (show cfg.cls 163 5 = [] from rfl)
theorem dr163x8 {p : List Nat} {s : St} {Q : Ex → St → Prop} (l : List Oper) : Wq cfg 163 p (.region 8 l.toArray true) s Q = Ops cfg p l.toArray l s (Q .normal) := Wp_draw 8 l (show cfg.cls 163 8 = [] from rfl)
theorem dr163x10 {p : List Nat} {s : St} {Q : Ex → St → Prop} (l : List Oper) : Wq cfg 163 p (.region 10 l.toArray true) s Q = Ops cfg p l.toArray l s (Q .normal) := Wp_draw 10 l (show cfg.cls 163 10 = [] from rfl)
theorem dr163x13 {p : List Nat} {s : St} {Q : Ex → St → Prop} (l : List Oper) : Wq cfg 163 p (.region 13 l.toArray true) s Q = Ops cfg p l.toArray l s (Q .normal) := Wp_draw 13 l (show cfg.cls 163 13 = [] from rfl)
theorem dr163x15 {p : List Nat} {s : St} {Q : Ex → St → Prop} (l : List Oper) : Wq cfg 163 p (.region 15 l.toArray true) s Q = Ops cfg p l.toArray l s (Q .normal) := Wp_draw 15 l (show cfg.cls 163 15 = [] from rfl)
theorem dr163x18 {p : List Nat} {s : St} {Q : Ex → St → Prop} (l : List Oper) : Wq cfg 163 p (.region 18 l.toArray true) s Q = Ops cfg p l.toArray l s (Q .normal) := Wp_draw 18 l (show cfg.cls 163 18 = [] from rfl)
theorem dr163x21 {p : List Nat} {s : St} {Q : Ex → St → Prop} (l : List Oper) : Wq cfg 163 p (.region 21 l.toArray true) s Q = Ops cfg p l.toArray l s (Q .normal) := Wp_draw 21 l (show cfg.cls 163 21 = [] from rfl)
theorem dr170x3 {p : List Nat} {s : St} {Q : Ex → St → Prop} (l : List Oper) : Wq cfg 170 p (.region 3 l.toArray true) s Q = Ops cfg p l.toArray l s (Q .normal) := Wp_draw 3 l (show cfg.cls 170 3 = [] from rfl)
theorem dr176x3 {p : List Nat} {s : St} {Q : Ex → St → Prop} (l : List Oper) : Wq cfg 176 p (.region 3 l.toArray true) s Q = Ops cfg p l.toArray l s (Q .normal) := Wp_draw 3 l (show cfg.cls 176 3 = [] from rfl)
theorem dr176x5 {p : List Nat} {s : St} {Q : Ex → St → Prop} (l : List Oper) : Wq cfg 176 p (.region 5 l.toArray true) s Q = Ops cfg p l.toArray l s (Q .normal) := Wp_draw 5 l (show cfg.cls 176 5 = [] from rfl)
theorem dr176x6 {p : List Nat} {s : St} {Q : Ex → St → Prop} (l : List Oper) : Wq cfg 176 p (.region 6 l.toArray true) s Q = Ops cfg p l.toArray l s (Q .normal) := Wp_draw 6 l (show cfg.cls 176 6 = [] from rfl)
theorem dr178x1 {p : List Nat} {s : St} {Q : Ex → St → Prop} (l : List Oper) : Wq cfg 178 p (.region 1 l.toArray true) s Q = Ops cfg p l.toArray l s (Q .normal) := Wp_draw 1 l (show cfg.cls 178 1 = [] from rfl)
theorem dr178x2 {p : List Nat} {s : St} {Q : Ex → St → Prop} (l : List Oper) : Wq cfg 178 p (.region 2 l.toArray true) s Q = Ops cfg p l.toArray l s (Q .normal) := Wp_draw 2 l (show cfg.cls 178 2 = [] from rfl)
theorem dr178x3 {p : List Nat} {s : St} {Q : Ex → St → Prop} (l : List Oper) : Wq cfg 178 p (.region 3 l.toArray true) s Q = Ops cfg p l.toArray l s (Q .normal) := Wp_draw 3 l (show cfg.cls 178 3 = [] from rfl)
theorem dr186x1 {p : List Nat} {s : St} {Q : Ex → St → Prop} (l : List Oper) : Wq cfg 186 p (.region 1 l.toArray true) s Q = Ops cfg p l.toArray l s (Q .normal) := Wp_draw 1 l (show cfg.cls 186 1 = [] from rfl)
theorem beq4 {x y : Operand} {a b : Bool} : binA cfg .eql 4 x y (.b a) (.b b) = some (.b (a == b)) := binA_beql un4
theorem bne4 {x y : Operand} {a b : Bool} : binA cfg .neq 4 x y (.b a) (.b b) = some (.b (!(a == b))) := binA_bneq un4
end Go.Am.R1
