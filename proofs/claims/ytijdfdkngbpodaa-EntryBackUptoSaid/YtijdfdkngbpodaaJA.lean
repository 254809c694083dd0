/- Parts of one machine and of the walks over it, joined: KA0 KA1 KA2 KA3 KA4. -/
import Derived.Test.YtijdfdkngbpodaaJH
import Derived.Test.YtijdfdkngbpodaaAmFlat
import Derived.Test.YtijdfdkngbpodaaAmGuard
import Derived.Test.YtijdfdkngbpodaaAmZ
/- Facts of types, for the machine A. -/
namespace Go.Am.R1.A
open Go.Proofs Go.Am.R1
set_option maxRecDepth 100000
set_option linter.unusedVariables false
set_option linter.unusedSimpArgs false
theorem kpF {f : Nat} {p : List Nat} (h : [19, 52, 88, 89, 90, 42, 44].contains f = false) : cfgA.keep f p = false := keepT_no h
theorem kpT {f : Nat} {p : List Nat} (h : [19, 52, 88, 89, 90].contains f = true) : cfgA.keep f p = true := keepT_yes h
theorem sh3 : cfgA.shape 3 = .int .i64 := by kernel_rfl
theorem sz3 : cfgA.size 3 = some 1 := by kernel_rfl
theorem by3 : cfgA.bytes 3 = 8 := by kernel_rfl
theorem ag3 : cfgA.isAgg 3 = some false := by kernel_rfl
theorem kn3 : known cfgA 3 = true := by kernel_rfl
theorem ze3 : cfgA.zero 3 = some (.i .i64 0) := by kernel_rfl
theorem sh9 : cfgA.shape 9 = .string := by kernel_rfl
theorem sz9 : cfgA.size 9 = some 1 := by kernel_rfl
theorem by9 : cfgA.bytes 9 = 16 := by kernel_rfl
theorem ag9 : cfgA.isAgg 9 = some false := by kernel_rfl
theorem kn9 : known cfgA 9 = true := by kernel_rfl
theorem ze9 : cfgA.zero 9 = some (.s .empty) := by kernel_rfl
theorem sh57 : cfgA.shape 57 = .slice 66 := by kernel_rfl
theorem sz57 : cfgA.size 57 = some 1 := by kernel_rfl
theorem by57 : cfgA.bytes 57 = 24 := by kernel_rfl
theorem ag57 : cfgA.isAgg 57 = some false := by kernel_rfl
theorem kn57 : known cfgA 57 = true := by kernel_rfl
theorem el57 : cfgA.elem 57 = some (66, 2, (.agg [(.s .empty), (.i .i64 0)])) := by kernel_rfl
theorem ze57 : cfgA.zero 57 = some .nils := by kernel_rfl
theorem sh66 : cfgA.shape 66 = .other := by kernel_rfl
theorem sz66 : cfgA.size 66 = some 2 := by kernel_rfl
theorem by66 : cfgA.bytes 66 = 24 := by kernel_rfl
theorem ag66 : cfgA.isAgg 66 = some true := by kernel_rfl
theorem kn66 : known cfgA 66 = true := by kernel_rfl
theorem ze66 : cfgA.zero 66 = some (.agg [(.s .empty), (.i .i64 0)]) := by kernel_rfl
theorem fk66 : flat cfgA 20 66 = some ([.s] ++ [(.i .i64)] : List Fk) := by kernel_rfl
theorem pl66 : cfgA.places 66 = some [(0, 1), (1, 1)] := by kernel_rfl
theorem ld3 {σ : List O} {r o : Nat} {st : List Nat} : loadA cfgA 3 σ (.ptr r st o) = (rowAt σ r st).bind fun cs => cs[o]? := load_sc ag3
theorem li3 {σ : List O} {cs : List V} : loadA cfgA 3 σ (.iptr cs) = cs[0]? := load_ip ag3
theorem sto3 {σ : List O} {r o : Nat} {st : List Nat} {v : V} (hv : v.one = true) : storeA cfgA 3 σ (.ptr r st o) v = (rowAt σ r st).bind fun cs => if o < cs.length then some (σ.set r (.cells st (cs.set o v))) else none := store_sc sz3 hv
theorem ld9 {σ : List O} {r o : Nat} {st : List Nat} : loadA cfgA 9 σ (.ptr r st o) = (rowAt σ r st).bind fun cs => cs[o]? := load_sc ag9
theorem li9 {σ : List O} {cs : List V} : loadA cfgA 9 σ (.iptr cs) = cs[0]? := load_ip ag9
theorem sto9 {σ : List O} {r o : Nat} {st : List Nat} {v : V} (hv : v.one = true) : storeA cfgA 9 σ (.ptr r st o) v = (rowAt σ r st).bind fun cs => if o < cs.length then some (σ.set r (.cells st (cs.set o v))) else none := store_sc sz9 hv
theorem les9 {σ : List O} {b : ByteArray} : lenA cfgA 9 σ (.s b) = some (.i .i64 b.size) := len_str sh9
theorem ixs9 {i : Int} {b : ByteArray} {k : IntKind} (h0 : 0 ≤ i) (h1 : i < b.size) : indexA cfgA 9 (.s b) (.i k i) = (b[i.toNat]?).map fun x => .i .u8 x.toNat := ixs sh9 h0 h1
theorem ld57 {σ : List O} {r o : Nat} {st : List Nat} : loadA cfgA 57 σ (.ptr r st o) = (rowAt σ r st).bind fun cs => cs[o]? := load_sc ag57
theorem li57 {σ : List O} {cs : List V} : loadA cfgA 57 σ (.iptr cs) = cs[0]? := load_ip ag57
theorem sto57 {σ : List O} {r o : Nat} {st : List Nat} {v : V} (hv : v.one = true) : storeA cfgA 57 σ (.ptr r st o) v = (rowAt σ r st).bind fun cs => if o < cs.length then some (σ.set r (.cells st (cs.set o v))) else none := store_sc sz57 hv
theorem ixi57 {r o n : Nat} {i : Int} {st : List Nat} {cap : Option Nat} {k : IntKind} (h0 : 0 ≤ i) (h1 : i < n) : indexAddrA cfgA 57 (.sl r st o n 2 cap) (.i k i) = some (.ptr r st (o + i.toNat * 2)) := ixi sh57 sz66 h0 h1
theorem iai57 {n : Nat} {i : Int} {cs : List V} {cl : Bool} {k : IntKind} (h0 : 0 ≤ i) (h1 : i < n) : indexAddrA cfgA 57 (.arr cs n cl) (.i k i) = some (.iptr (cs.drop (i.toNat * 2))) := iai sh57 sz66 h0 h1
theorem le57 {σ : List O} {r o n es : Nat} {st : List Nat} {cap : Option Nat} : lenA cfgA 57 σ (.sl r st o n es cap) = some (.i .i64 n) := len_sl sh57
theorem lr57 {σ : List O} {n : Nat} {cs : List V} {cl : Bool} : lenA cfgA 57 σ (.arr cs n cl) = some (.i .i64 n) := len_arr sh57
theorem ln57 {σ : List O} : lenA cfgA 57 σ .nils = some (.i .i64 0) := len_nils sh57
theorem eq66 {x y : Operand} {us vs : List V} (hu : us.map V.fk = ([.s] ++ [(.i .i64)] : List Fk).map some) (hv : vs.map V.fk = ([.s] ++ [(.i .i64)] : List Fk).map some) : binA cfgA .eql 66 x y (.agg us) (.agg vs) = some (.b (eqB us vs)) := (binA_flat fk66 ag66 (by kernel_rfl) hu hv).1
theorem ne66 {x y : Operand} {us vs : List V} (hu : us.map V.fk = ([.s] ++ [(.i .i64)] : List Fk).map some) (hv : vs.map V.fk = ([.s] ++ [(.i .i64)] : List Fk).map some) : binA cfgA .neq 66 x y (.agg us) (.agg vs) = some (.b (!eqB us vs)) := (binA_flat fk66 ag66 (by kernel_rfl) hu hv).2
theorem lda66 {σ : List O} {r o : Nat} {st : List Nat} : loadA cfgA 66 σ (.ptr r st o) = (rowAt σ r st).bind fun cs => (take? cs o 2).map V.agg := load_agg ag66 sz66 (by decide)
theorem sta66 {σ : List O} {r o : Nat} {st : List Nat} {us : List V} (hl : us.length = 2) (ho : us.all V.one = true) : storeA cfgA 66 σ (.ptr r st o) (.agg us) = (rowAt σ r st).bind fun cs => if o + 2 ≤ cs.length then some (σ.set r (.cells st (splice cs o us))) else none := store_agg sz66 hl ho
theorem bd66 {parts : List (Nat × V)} : buildA cfgA 66 parts = (partsAt (fun i => ([(0, 1), (1, 1)] : List (Nat × Nat))[i]?) parts).bind fun l => (fillA [(.s .empty), (.i .i64 0)] l).map V.agg := build_struct sh66 pl66 ze66
theorem fi66x0 : cfgA.field 66 0 = some (0, 9) := by kernel_rfl
theorem fi66x1 : cfgA.field 66 1 = some (1, 3) := by kernel_rfl
theorem dr88x11 {p : List Nat} {s : St} {Q : Ex → St → Prop} (l : List Oper) : Wq cfgA 88 p (.region 11 l.toArray true) s Q = Ops cfgA p l.toArray l s (Q .normal) := Wp_draw 11 l (show cfgA.cls 88 11 = [] from rfl)
theorem dr88x15 {p : List Nat} {s : St} {Q : Ex → St → Prop} (l : List Oper) : Wq cfgA 88 p (.region 15 l.toArray true) s Q = Ops cfgA p l.toArray l s (Q .normal) := Wp_draw 15 l (show cfgA.cls 88 15 = [] from rfl)
theorem dr90x5 {p : List Nat} {s : St} {Q : Ex → St → Prop} (l : List Oper) : Wq cfgA 90 p (.region 5 l.toArray true) s Q = Ops cfgA p l.toArray l s (Q .normal) := Wp_draw 5 l (show cfgA.cls 90 5 = [] from rfl)
end Go.Am.R1.A

/- slices.Insert of one entry, where the room is known. -/
namespace Go.Am.R1.A
open Go.Proofs Go.Am.R1
set_option maxRecDepth 100000
set_option linter.unusedSimpArgs false
set_option linter.unusedVariables false
variable {σ : List O} {p : List Nat}
theorem row_eq {r : Nat} {st : List Nat} {cs : List V} (h : rowAt σ r st = some cs) : σ[r]? = some (.cells st cs) := by
  unfold rowAt at h
  split at h
  · rename_i st' cs' hs
    split at h
    · rename_i e; cases h; rw [hs, e]
    · cases h
  · cases h
theorem row_set_self {r : Nat} {st st' : List Nat} {cs cs' : List V} (h : rowAt σ r st = some cs) : rowAt (σ.set r (.cells st' cs')) r st' = some cs' := by
  have := (List.getElem?_eq_some_iff.1 (row_eq h)).1
  simp [rowAt, List.getElem?_set_self this]
theorem row_set_ne {r r2 : Nat} {st : List Nat} {o : O} (h : r ≠ r2) : rowAt (σ.set r o) r2 st = rowAt σ r2 st := by
  simp [rowAt, List.getElem?_set_ne h]
theorem dropa {a b : List V} {j k : Nat} (h : a.length = j) : (a ++ b).drop (j + k) = b.drop k := by
  subst h
  rw [List.drop_append, List.drop_of_length_le (by omega), List.nil_append]
  congr 1; omega
theorem take_all' {cs : List V} {n : Nat} (h : cs.length = n) : take? cs 0 n = some cs := by
  unfold take?
  rw [if_pos (by omega), List.drop_zero, List.take_of_length_le (by omega)]
/-- What copying up comes to. -/
theorem shift_eq {cs hs vs : List V} {n i : Nat} (hc : cs.length = n * 2) (hv : vs.length = 2) (hi : i < n) (hh : 2 ≤ hs.length) :
    splice (splice (cs ++ hs) ((i + 1) * 2) ((((cs ++ hs).drop (i * 2)).take ((n + 1 - i) * 2)).take ((n - i) * 2))) (i * 2) vs = insV i cs vs ++ hs.drop 2 := by
  have e1 : (((cs ++ hs).drop (i * 2)).take ((n + 1 - i) * 2)).take ((n - i) * 2) = cs.drop (i * 2) := by
    rw [List.take_take, Nat.min_eq_left (by omega), List.drop_append_of_le_length (by omega), List.take_append_of_le_length (by rw [List.length_drop]; omega), List.take_of_length_le (by rw [List.length_drop]; omega)]
  rw [e1]
  have hl : (cs.drop (i * 2)).length = (n - i) * 2 := by rw [List.length_drop]; omega
  unfold insV
  apply List.ext_getElem?
  intro j
  simp only [splice, hl, hv]
  have q1 : ((cs ++ hs).take ((i + 1) * 2)).length = (i + 1) * 2 := by rw [List.length_take, List.length_append]; omega
  have q2 : ((cs ++ hs).take ((i + 1) * 2) ++ cs.drop (i * 2) ++ (cs ++ hs).drop ((i + 1) * 2 + (n - i) * 2)).take (i * 2) = cs.take (i * 2) := by
    rw [List.append_assoc, List.take_append_of_le_length (by omega), List.take_take, Nat.min_eq_left (by omega), List.take_append_of_le_length (by omega)]
  have q3 : ((cs ++ hs).take ((i + 1) * 2) ++ cs.drop (i * 2) ++ (cs ++ hs).drop ((i + 1) * 2 + (n - i) * 2)).drop (i * 2 + 2) = cs.drop (i * 2) ++ hs.drop 2 := by
    rw [List.append_assoc, show i * 2 + 2 = (i + 1) * 2 + 0 by omega, dropa q1, List.drop_zero, show (i + 1) * 2 + (n - i) * 2 = n * 2 + 2 by omega, dropa hc]
  rw [q2, q3, List.append_assoc, List.append_assoc, List.append_assoc]
theorem end_eq {cs hs vs : List V} {n : Nat} (hc : cs.length = n * 2) (hv : vs.length = 2) (hh : 2 ≤ hs.length) : splice (cs ++ hs) (n * 2) vs = insV n cs vs ++ hs.drop 2 := by
  unfold splice insV
  have e1 : cs.take (n * 2) = cs := List.take_of_length_le (by omega)
  have e2 : cs.drop (n * 2) = [] := List.drop_of_length_le (by omega)
  rw [hv, dropa hc, List.take_left' hc, e1, e2, List.append_nil]
section
variable {C : Cfg} {t e B : Nat} {zv : V} {r r2 n k o n1 o2 n2 : Nat} {st st2 st' : List Nat} {row row2 cs hs vs : List V} {c1 c2 : Option Nat}
theorem app_room (he : C.elem t = some (e, 2, zv)) (hr : rowAt σ r st = some row) (hv : rowAt σ r2 st2 = some vs) (hvl : vs.length = 2) (hl : (n + 1) * 2 ≤ row.length) (hk : n + 1 ≤ k) :
    appendA C t σ st' (.sl r st 0 n 2 (some k)) (.sl r2 st2 0 1 2 (some 1)) = some (.sl r st 0 (n + 1) 2 (some k), σ.set r (.cells st (splice row (n * 2) vs))) := by
  have h1 : take? vs 0 (1 * 2) = some vs := take_all' (by omega)
  simp only [appendA, he, Option.bind_some, elems, if_true, hv, h1, Option.map_some, hr]
  rw [if_neg (by omega), if_pos ⟨by omega, by simp [capFits]; omega⟩, Nat.zero_add]
theorem app_full (he : C.elem t = some (e, 2, zv)) (hb : C.bytes e = B) (hr : rowAt σ r st = some cs) (hc : cs.length = n * 2) (hv : rowAt σ r2 st2 = some vs) (hvl : vs.length = 2) (hB : (n + 1) * B ≤ 140737488355328) :
    appendA C t σ st' (.sl r st 0 n 2 (some n)) (.sl r2 st2 0 1 2 (some 1)) = some (.sl σ.length st' 0 (n + 1) 2 none, σ ++ [.cells st' (cs ++ vs)]) := by
  have h1 : take? vs 0 (1 * 2) = some vs := take_all' (by omega)
  have h2 : take? cs 0 (n * 2) = some cs := take_all' (by omega)
  simp only [appendA, he, Option.bind_some, elems, if_true, hv, h1, Option.map_some, hr]
  rw [if_neg (by omega), if_neg (by omega), hb, roomy_of hB, if_pos rfl, if_pos (by omega), h2]
  rfl
theorem app_zeros (he : C.elem t = some (e, 2, zv)) (hb : C.bytes e = B) (hr : rowAt σ r st = some cs) (hc : cs.length = n * 2) {i : Nat} (hi : i ≤ n) (hB : (n + 1) * B ≤ 140737488355328) :
    appendZA C t σ st' (.sl r st 0 i 2 (some n)) ((n + 1 - i : Nat) : Int) = some (.sl σ.length st' 0 (n + 1) 2 none, σ ++ [.cells st' (cs.take (i * 2) ++ (List.replicate (n + 1 - i) zv.cells).flatten)]) := by
  have h2 : take? cs 0 (i * 2) = some (cs.take (i * 2)) := by simp [take?, hc]; omega
  have h3 : i + (n + 1 - i) = n + 1 := by omega
  simp only [appendZA, he, Option.bind_some, if_true, hr, Int.toNat_natCast, h3]
  rw [if_pos (by omega), if_pos (by omega), hb, roomy_of hB, if_pos rfl, h2]
  rfl
theorem slLo {lo : Nat} (hs : C.shape t = .slice e) (hz : C.size e = some 2) (h : lo < n) : sliceA C t (.sl r st 0 n 2 (some k)) (some (.i .i64 (lo : Nat))) none none = some (.sl r st (lo * 2) (n - lo) 2 (some (k - lo))) := by
  simp only [sliceA, hs, hz, Option.bind_some, ne_eq, not_true_eq_false, if_false, bnd, Int.toNat_natCast]
  rw [if_pos (by omega), if_pos (by omega), Option.bind_some, if_pos h]
  simp
theorem slEnd (hs : C.shape t = .slice e) (hz : C.size e = some 2) : sliceA C t (.sl r st 0 n 2 (some k)) (some (.i .i64 (n : Nat))) none none = some (.arr [] 0 false) := by
  simp only [sliceA, hs, hz, Option.bind_some, ne_eq, not_true_eq_false, if_false, bnd, Int.toNat_natCast]
  rw [if_pos (by omega), if_pos (by omega), Option.bind_some, if_neg (by omega)]
  simp
theorem slHi {hi : Nat} (hs : C.shape t = .slice e) (hz : C.size e = some 2) (h : hi ≤ k) (hn : 0 < n) : sliceA C t (.sl r st 0 n 2 (some k)) none (some (.i .i64 (hi : Nat))) none = some (.sl r st 0 hi 2 (some k)) := by
  simp only [sliceA, hs, hz, Option.bind_some, ne_eq, not_true_eq_false, if_false, bnd, Int.toNat_natCast, Option.getD_some]
  rw [if_pos (by omega), if_pos (by omega)]
  simp only [Option.bind_some, if_pos hn]
  simp
theorem slLoN {lo : Nat} (hs : C.shape t = .slice e) (hz : C.size e = some 2) (h : lo < n) : sliceA C t (.sl r st 0 n 2 none) (some (.i .i64 (lo : Nat))) none none = some (.sl r st (lo * 2) (n - lo) 2 none) := by
  simp only [sliceA, hs, hz, Option.bind_some, ne_eq, not_true_eq_false, if_false, bnd, Int.toNat_natCast]
  rw [if_pos (by omega), if_pos (by omega), Option.bind_some, if_pos h]
  simp
theorem copy_eq (he : C.elem t = some (e, 2, zv)) (hr : rowAt σ r st = some row) (hr2 : rowAt σ r2 st2 = some row2) (hd : o + n1 * 2 ≤ row.length) (hs : o2 + n2 * 2 ≤ row2.length) :
    copyA C t σ (.sl r st o n1 2 c1) (.sl r2 st2 o2 n2 2 c2) = some (.i .i64 ((min n2 n1 : Nat) : Int), σ.set r (.cells st (splice row o (((row2.drop o2).take (n2 * 2)).take (min n2 n1 * 2))))) := by
  simp only [copyA, he, Option.bind_some, elems, if_true, hr2, take?, if_pos hs, Option.map_some, hr, if_pos hd]
end
end Go.Am.R1.A

/- slices.Insert of one entry, walked. -/
namespace Go.Am.R1.A
open Go.Proofs Go.Am.R1
set_option maxRecDepth 100000
set_option linter.unusedSimpArgs false
set_option linter.unusedVariables false
variable {σ : List O} {p : List Nat}
theorem zeros_eq {cs vs zs : List V} {n i : Nat} (hc : cs.length = n * 2) (hv : vs.length = 2) (hi : i < n) (hz : zs.length = (n + 1 - i) * 2) :
    splice (splice (cs.take (i * 2) ++ zs) (i * 2) vs) ((i + 1) * 2) (cs.drop (i * 2)) = insV i cs vs := by
  have h1 : (cs.take (i * 2)).length = i * 2 := by rw [List.length_take]; omega
  have e1 : splice (cs.take (i * 2) ++ zs) (i * 2) vs = cs.take (i * 2) ++ vs ++ zs.drop 2 := by
    unfold splice
    rw [List.take_left' h1, hv, List.drop_append, List.drop_of_length_le (l := cs.take (i * 2)) (by omega), List.nil_append, h1]
    congr 2; omega
  rw [e1]
  unfold splice insV
  have h2 : (cs.take (i * 2) ++ vs).length = (i + 1) * 2 := by rw [List.length_append, h1, hv]; omega
  have h3 : (cs.take (i * 2) ++ vs ++ zs.drop 2).drop ((i + 1) * 2 + (cs.drop (i * 2)).length) = [] := List.drop_of_length_le (by
    rw [List.length_append, h2, List.length_drop, List.length_drop]; omega)
  rw [List.take_left' h2, h3, List.append_nil]
theorem over_ok {r r2 o n k o2 n2 k2 : Nat} {st st2 : List Nat} {row row2 : List V} (hr : rowAt σ r st = some row) (hr2 : rowAt σ r2 st2 = some row2) (hne : r ≠ r2) (ho : o < row.length) (h2 : 0 < row2.length) :
    runF cfgA 126 [.sl r st o n 2 (some k), .sl r2 st2 o2 n2 2 (some k2)] σ p = some (.b false, σ) := by
  have : pOverlaps [.sl r st o n 2 (some k), .sl r2 st2 o2 n2 2 (some k2)] σ = some (.b false) := by
    simp only [pOverlaps, hr, hr2, Option.bind_some]
    rw [if_pos ⟨hne, ho, h2⟩]
  exact run_prim (q := pOverlaps) rfl this
theorem ins_end {n k : Nat} {r r2 : Nat} {st st2 : List Nat} {cs hs vs : List V} (hrow : rowAt σ r st = some (cs ++ hs)) (hc : cs.length = n * 2) (hk : n ≤ k) (hh : hs.length = (k - n) * 2) (hv : rowAt σ r2 st2 = some vs) (hvl : vs.length = 2) (hne : r ≠ r2) (hn : 0 < n) (hb : n ≤ 1000000) :
    runF cfgA 88 [.sl r st 0 n 2 (some k), .i .i64 (n : Nat), .sl r2 st2 0 1 2 (some 1)] σ p = some (.sl r st 0 (n + 1) 2 (some k), σ.set r (.cells st (insV n cs vs ++ hs.drop 2))) ∨
    (k = n ∧ ∃ st3, runF cfgA 88 [.sl r st 0 n 2 (some k), .i .i64 (n : Nat), .sl r2 st2 0 1 2 (some 1)] σ p = some (.sl σ.length st3 0 (n + 1) 2 none, σ ++ [.cells st3 (insV n cs vs)])) := by
  have i0 : ((1 : Int) = 0) = False := eq_false (by omega)
  have s1 := slEnd (C := cfgA) (t := 57) (r := r) (st := st) (n := n) (k := k) sh57 sz66
  by_cases hkn : n + 1 ≤ k
  · left
    have ha := fun st' => app_room (σ := σ) (t := 57) (st' := st') el57 hrow hv hvl (n := n) (k := k) (by rw [List.length_append]; omega) hkn
    rw [end_eq hc hvl (by omega)] at ha
    refine run_done rfl rfl Try.func88 rfl ?_
    simp +contextual (disch := first | omega | exact rfl | decide | exact kpF (by decide) | exact kpT (by decide) | assumption | exact Z2z | exact Z30 | exact Z32 | exact Z31 | exact Z33 | exact Z34 | (simp only [Z6x, Z6y, Z2q, Z2g, Z6d, Z6e] <;> omega) | (simp only [Z6v, Z6w, Z7i, Z7j, Z7k, Z7l, Z2i, Z6k]) | (simp only [Z35, Z36, Z2r, Z2s, Z2t, Z2u, Z2v, Z2w, Z2x, Z2y, Z2z, Z30, Z31, Z32, Z33, Z34, Z7m, Z4a, Z4b] <;> assumption)) only [Try.f88, Z00, Z01, Z02, Z03, Z04, Z05, Z06, Z07, Z08, Z09, Z0a, Z0b, Z0c, Z0d, Z0e, Z0f, Z0g, Z0h, Z0i, Z0j, Z0k, Z0l, Z0m, Z0n, Z0o, SOp, Z0q, Z0r, Z0s, Z0t, Z0u, Z0v, Z0w, Z0x, Z0y, Z0z, Z10, Z11, Z12, GOp, Z14, Z15, Z16, Z17, Z18, Z19, Z1a, Z1b, ↓Z1c, Z1d, Z1e, Z1f, Z1g, Z1h, Z1i, Z1j, Z1k, Z1l, Z1m, Z1n, Z1o, Z1p, Int.reduceAdd, Int.reduceSub, Int.reduceMul, Int.reduceNeg, Z1q, Z1r, Z1s, Z1t, Z1u, Z1v, Z1w, Z1x, Z1y, Z1z, accs, touch, touchM, okPair, Z24, Z25, Z26, Z27, Z28, Z29, Z2a, Z2b, Z2c, Z2d, Z2e, Z2f, Z2g, Z2h, Z2i, Z2j, Z2k, Z2l, Z2m, Z2n, Z2o, Z2p, Z2q, Z2r, Z2s, Z2t, Z2u, Z2v, Z2w, Z2x, Z2y, Z2z, Z30, Z31, Z32, Z33, Z34, Z35, Z36, Z37, Z38, Z39, Z3a, Z3b, Z3c, Z3d, Z3e, Z3f, Z3g, Z3h, Z3i, Z3j, Z3k, Z3l, Nat.reduceAdd, Nat.reduceLeDiff, Nat.reduceMul, Nat.reduceSub, isV, opA, Z3o, grdO, grd, Z3r, Z3s, Z3t, Z3u, Z3v, Z3w, Z3x, Z3y, Z3z, Z40, Z41, Z42, Z43, Z44, Z45, Z46, Z47, Z48, Z49, Z4a, Z4b, Z4c, Z4d, Z4e, Z4f, Z4g, Z4h, Z4i, Z4j, Z4k, Int.reduceLT, Int.reduceLE, Int.reduceToNat, Z4l, Z4m, Z4n, Z4o, Z4p, Z4q, Z4r, Z4s, Z4t, Z4u, Z4v, Z4w, Z4x, Z4y, Z4z, Z50, Z51, Z52, Z53, Z54, Z55, Z56, Z57, Z58, Z59, Z5a, Z5b, Z5c, Z5d, Z5e, Z5f, Z5g, Z5h, Z5i, Z5j, Z5k, Z5l, Z5m, Z5n, Z5o, Z5p, Z5q, Z5r, Z5s, Z5t, Z5u, builtinP, builtinA, changes, fieldAddrA, resA, tupled, Z61, Z62, Z63, Z64, Z65, Z66, Z67, Z68, Z69, Z2q, Z6a, Z6b, Z64, Z6c, Z2m, Z6d, Z6e, Z6f, Z6g, Z6h, Z6i, Z6j, Z6k, Z6l, Z6m, Z6n, Z6o, Z6p, Z6q, Z6r, Z6s, Z6t, Z6u, Z6v, Z6w, Z6x, Z6y, Z6z, ↓reduceIte, Nat.reduceEqDiff, Nat.reduceLT, Z70, Int.reduceEq, Z3x, Z6s, Z71, Z72, Z73, Z74, Z75, Z76, Z77, Z78, Z79, Z7a, Z7b, Z7c, Z7d, Z7e, Z7f, Z7g, Z7h, dr88x11, dr88x15, sh3, sz3, by3, ag3, kn3, ze3, ld3, li3, sto3, sh9, sz9, by9, ag9, kn9, ze9, ld9, li9, sto9, les9, ixs9, sh57, sz57, by57, ag57, kn57, el57, ze57, ld57, li57, sto57, ixi57, iai57, le57, lr57, ln57, sh66, sz66, by66, ag66, kn66, ze66, fk66, eq66, ne66, pl66, lda66, sta66, bd66, fi66x0, fi66x1, ha, s1, i0, DoneQ_keep]
  · right
    obtain rfl : k = n := by omega
    refine ⟨rfl, ?_⟩
    have : hs = [] := List.eq_nil_of_length_eq_zero (by rw [hh]; simp)
    subst this
    rw [List.append_nil] at hrow
    have ha := fun st' => app_full (σ := σ) (t := 57) (st' := st') el57 by66 hrow hc hv hvl (by omega)
    have hi : insV k cs vs = cs ++ vs := by
      unfold insV
      rw [List.take_of_length_le (by omega), List.drop_of_length_le (by omega), List.append_nil]
    rw [hi]
    suffices hs : ∃ res, runF cfgA 88 [.sl r st 0 k 2 (some k), .i .i64 (k : Nat), .sl r2 st2 0 1 2 (some 1)] σ p = some res ∧ ∃ st3, res = (.sl σ.length st3 0 (k + 1) 2 none, σ ++ [.cells st3 (cs ++ vs)]) by
      obtain ⟨res, h1, st3, rfl⟩ := hs
      exact ⟨st3, h1⟩
    refine run_doneP rfl rfl Try.func88 rfl ?_
    simp +contextual (disch := first | omega | exact rfl | decide | exact kpF (by decide) | exact kpT (by decide) | assumption | exact Z2z | exact Z30 | exact Z32 | exact Z31 | exact Z33 | exact Z34 | (simp only [Z6x, Z6y, Z2q, Z2g, Z6d, Z6e] <;> omega) | (simp only [Z6v, Z6w, Z7i, Z7j, Z7k, Z7l, Z2i, Z6k]) | (simp only [Z35, Z36, Z2r, Z2s, Z2t, Z2u, Z2v, Z2w, Z2x, Z2y, Z2z, Z30, Z31, Z32, Z33, Z34, Z7m, Z4a, Z4b] <;> assumption)) only [Try.f88, Z00, Z01, Z02, Z03, Z04, Z05, Z06, Z07, Z08, Z09, Z0a, Z0b, Z0c, Z0d, Z0e, Z0f, Z0g, Z0h, Z0i, Z0j, Z0k, Z0l, Z0m, Z0n, Z0o, SOp, Z0q, Z0r, Z0s, Z0t, Z0u, Z0v, Z0w, Z0x, Z0y, Z0z, Z10, Z11, Z12, GOp, Z14, Z15, Z16, Z17, Z18, Z19, Z1a, Z1b, ↓Z1c, Z1d, Z1e, Z1f, Z1g, Z1h, Z1i, Z1j, Z1k, Z1l, Z1m, Z1n, Z1o, Z1p, Int.reduceAdd, Int.reduceSub, Int.reduceMul, Int.reduceNeg, Z1q, Z1r, Z1s, Z1t, Z1u, Z1v, Z1w, Z1x, Z1y, Z1z, accs, touch, touchM, okPair, Z24, Z25, Z26, Z27, Z28, Z29, Z2a, Z2b, Z2c, Z2d, Z2e, Z2f, Z2g, Z2h, Z2i, Z2j, Z2k, Z2l, Z2m, Z2n, Z2o, Z2p, Z2q, Z2r, Z2s, Z2t, Z2u, Z2v, Z2w, Z2x, Z2y, Z2z, Z30, Z31, Z32, Z33, Z34, Z35, Z36, Z37, Z38, Z39, Z3a, Z3b, Z3c, Z3d, Z3e, Z3f, Z3g, Z3h, Z3i, Z3j, Z3k, Z3l, Nat.reduceAdd, Nat.reduceLeDiff, Nat.reduceMul, Nat.reduceSub, isV, opA, Z3o, grdO, grd, Z3r, Z3s, Z3t, Z3u, Z3v, Z3w, Z3x, Z3y, Z3z, Z40, Z41, Z42, Z43, Z44, Z45, Z46, Z47, Z48, Z49, Z4a, Z4b, Z4c, Z4d, Z4e, Z4f, Z4g, Z4h, Z4i, Z4j, Z4k, Int.reduceLT, Int.reduceLE, Int.reduceToNat, Z4l, Z4m, Z4n, Z4o, Z4p, Z4q, Z4r, Z4s, Z4t, Z4u, Z4v, Z4w, Z4x, Z4y, Z4z, Z50, Z51, Z52, Z53, Z54, Z55, Z56, Z57, Z58, Z59, Z5a, Z5b, Z5c, Z5d, Z5e, Z5f, Z5g, Z5h, Z5i, Z5j, Z5k, Z5l, Z5m, Z5n, Z5o, Z5p, Z5q, Z5r, Z5s, Z5t, Z5u, builtinP, builtinA, changes, fieldAddrA, resA, tupled, Z61, Z62, Z63, Z64, Z65, Z66, Z67, Z68, Z69, Z2q, Z6a, Z6b, Z64, Z6c, Z2m, Z6d, Z6e, Z6f, Z6g, Z6h, Z6i, Z6j, Z6k, Z6l, Z6m, Z6n, Z6o, Z6p, Z6q, Z6r, Z6s, Z6t, Z6u, Z6v, Z6w, Z6x, Z6y, Z6z, ↓reduceIte, Nat.reduceEqDiff, Nat.reduceLT, Z70, Int.reduceEq, Z3x, Z6s, Z71, Z72, Z73, Z74, Z75, Z76, Z77, Z78, Z79, Z7a, Z7b, Z7c, Z7d, Z7e, Z7f, Z7g, Z7h, dr88x11, dr88x15, sh3, sz3, by3, ag3, kn3, ze3, ld3, li3, sto3, sh9, sz9, by9, ag9, kn9, ze9, ld9, li9, sto9, les9, ixs9, sh57, sz57, by57, ag57, kn57, el57, ze57, ld57, li57, sto57, ixi57, iai57, le57, lr57, ln57, sh66, sz66, by66, ag66, kn66, ze66, fk66, eq66, ne66, pl66, lda66, sta66, bd66, fi66x0, fi66x1, ha, s1, i0, DoneP_keep]
    exact ⟨_, rfl⟩
theorem ins_mid {n k i : Nat} {r r2 : Nat} {st st2 : List Nat} {cs hs vs : List V} (hrow : rowAt σ r st = some (cs ++ hs)) (hc : cs.length = n * 2) (hk : n ≤ k) (hh : hs.length = (k - n) * 2) (hv : rowAt σ r2 st2 = some vs) (hvl : vs.length = 2) (hne : r ≠ r2) (hi : i < n) (hb : n ≤ 1000000) :
    runF cfgA 88 [.sl r st 0 n 2 (some k), .i .i64 (i : Nat), .sl r2 st2 0 1 2 (some 1)] σ p = some (.sl r st 0 (n + 1) 2 (some k), σ.set r (.cells st (insV i cs vs ++ hs.drop 2))) ∨
    (k = n ∧ ∃ st3, runF cfgA 88 [.sl r st 0 n 2 (some k), .i .i64 (i : Nat), .sl r2 st2 0 1 2 (some 1)] σ p = some (.sl σ.length st3 0 (n + 1) 2 none, σ ++ [.cells st3 (insV i cs vs)])) := by
  have i0 : ((1 : Int) = 0) = False := eq_false (by omega)
  have i1 : ((i : Int) = (n : Int)) = False := eq_false (by omega)
  have s1 := slLo (C := cfgA) (t := 57) (r := r) (st := st) (n := n) (k := k) sh57 sz66 hi
  by_cases hkn : n + 1 ≤ k
  · left
    have i2 : ((k : Int) < (n : Int) + 1) = False := eq_false (by omega)
    have s2 := slHi (C := cfgA) (t := 57) (r := r) (st := st) (n := n) (k := k) (hi := n + 1) sh57 sz66 hkn (by omega)
    have s3 := slLo (C := cfgA) (t := 57) (r := r) (st := st) (n := n + 1) (k := k) (lo := i + 1) sh57 sz66 (by omega)
    have s4 := slLo (C := cfgA) (t := 57) (r := r) (st := st) (n := n + 1) (k := k) (lo := i) sh57 sz66 (by omega)
    have hl : (cs ++ hs).length = k * 2 := by rw [List.length_append]; omega
    have ho := fun q => over_ok (σ := σ) (p := q) (o := 0) (n := 1) (k := 1) (o2 := (i + 1) * 2) (n2 := n + 1 - (i + 1)) (k2 := k - (i + 1)) hv hrow (Ne.symm hne) (by omega) (by omega)
    have c1 := copy_eq (σ := σ) (C := cfgA) (t := 57) (o := (i + 1) * 2) (n1 := n + 1 - (i + 1)) (o2 := i * 2) (n2 := n + 1 - i) (c1 := some (k - (i + 1))) (c2 := some (k - i)) el57 hrow hrow (by omega) (by omega)
    rw [show min (n + 1 - i) (n + 1 - (i + 1)) = n - i by omega] at c1
    have hsh := shift_eq hc hvl hi (hs := hs) (by omega)
    generalize hrow1 : splice (cs ++ hs) ((i + 1) * 2) ((((cs ++ hs).drop (i * 2)).take ((n + 1 - i) * 2)).take ((n - i) * 2)) = row1 at c1 hsh
    have hl1 : row1.length = k * 2 := by
      rw [← hrow1, splice_length, hl]
      simp only [List.length_take, List.length_drop, hl]; omega
    have r1 := row_set_self (st' := st) (cs' := row1) hrow
    have r2' : rowAt (σ.set r (.cells st row1)) r2 st2 = some vs := by rw [row_set_ne hne]; exact hv
    have hset : ∀ x, (σ.set r (.cells st row1)).set r x = σ.set r x := fun x => List.set_set ..
    generalize σ.set r (.cells st row1) = σ1 at c1 r1 r2' hset
    have c2 := copy_eq (σ := σ1) (C := cfgA) (t := 57) (o := i * 2) (n1 := n + 1 - i) (o2 := 0) (n2 := 1) (c1 := some (k - i)) (c2 := some 1) el57 r1 r2' (by omega) (by omega)
    rw [show min 1 (n + 1 - i) = 1 by omega, List.drop_zero, List.take_of_length_le (l := vs) (by omega), List.take_of_length_le (l := vs) (by omega), hsh, hset] at c2
    simp only [Int.natCast_add, Int.cast_ofNat_Int] at s2 s3
    refine run_done rfl rfl Try.func88 rfl ?_
    simp +contextual (disch := first | omega | exact rfl | decide | exact kpF (by decide) | exact kpT (by decide) | assumption | exact Z2z | exact Z30 | exact Z32 | exact Z31 | exact Z33 | exact Z34 | (simp only [Z6x, Z6y, Z2q, Z2g, Z6d, Z6e] <;> omega) | (simp only [Z6v, Z6w, Z7i, Z7j, Z7k, Z7l, Z2i, Z6k]) | (simp only [Z35, Z36, Z2r, Z2s, Z2t, Z2u, Z2v, Z2w, Z2x, Z2y, Z2z, Z30, Z31, Z32, Z33, Z34, Z7m, Z4a, Z4b] <;> assumption)) only [Try.f88, Z00, Z01, Z02, Z03, Z04, Z05, Z06, Z07, Z08, Z09, Z0a, Z0b, Z0c, Z0d, Z0e, Z0f, Z0g, Z0h, Z0i, Z0j, Z0k, Z0l, Z0m, Z0n, Z0o, SOp, Z0q, Z0r, Z0s, Z0t, Z0u, Z0v, Z0w, Z0x, Z0y, Z0z, Z10, Z11, Z12, GOp, Z14, Z15, Z16, Z17, Z18, Z19, Z1a, Z1b, ↓Z1c, Z1d, Z1e, Z1f, Z1g, Z1h, Z1i, Z1j, Z1k, Z1l, Z1m, Z1n, Z1o, Z1p, Int.reduceAdd, Int.reduceSub, Int.reduceMul, Int.reduceNeg, Z1q, Z1r, Z1s, Z1t, Z1u, Z1v, Z1w, Z1x, Z1y, Z1z, accs, touch, touchM, okPair, Z24, Z25, Z26, Z27, Z28, Z29, Z2a, Z2b, Z2c, Z2d, Z2e, Z2f, Z2g, Z2h, Z2i, Z2j, Z2k, Z2l, Z2m, Z2n, Z2o, Z2p, Z2q, Z2r, Z2s, Z2t, Z2u, Z2v, Z2w, Z2x, Z2y, Z2z, Z30, Z31, Z32, Z33, Z34, Z35, Z36, Z37, Z38, Z39, Z3a, Z3b, Z3c, Z3d, Z3e, Z3f, Z3g, Z3h, Z3i, Z3j, Z3k, Z3l, Nat.reduceAdd, Nat.reduceLeDiff, Nat.reduceMul, Nat.reduceSub, isV, opA, Z3o, grdO, grd, Z3r, Z3s, Z3t, Z3u, Z3v, Z3w, Z3x, Z3y, Z3z, Z40, Z41, Z42, Z43, Z44, Z45, Z46, Z47, Z48, Z49, Z4a, Z4b, Z4c, Z4d, Z4e, Z4f, Z4g, Z4h, Z4i, Z4j, Z4k, Int.reduceLT, Int.reduceLE, Int.reduceToNat, Z4l, Z4m, Z4n, Z4o, Z4p, Z4q, Z4r, Z4s, Z4t, Z4u, Z4v, Z4w, Z4x, Z4y, Z4z, Z50, Z51, Z52, Z53, Z54, Z55, Z56, Z57, Z58, Z59, Z5a, Z5b, Z5c, Z5d, Z5e, Z5f, Z5g, Z5h, Z5i, Z5j, Z5k, Z5l, Z5m, Z5n, Z5o, Z5p, Z5q, Z5r, Z5s, Z5t, Z5u, builtinP, builtinA, changes, fieldAddrA, resA, tupled, Z61, Z62, Z63, Z64, Z65, Z66, Z67, Z68, Z69, Z2q, Z6a, Z6b, Z64, Z6c, Z2m, Z6d, Z6e, Z6f, Z6g, Z6h, Z6i, Z6j, Z6k, Z6l, Z6m, Z6n, Z6o, Z6p, Z6q, Z6r, Z6s, Z6t, Z6u, Z6v, Z6w, Z6x, Z6y, Z6z, ↓reduceIte, Nat.reduceEqDiff, Nat.reduceLT, Z70, Int.reduceEq, Z3x, Z6s, Z71, Z72, Z73, Z74, Z75, Z76, Z77, Z78, Z79, Z7a, Z7b, Z7c, Z7d, Z7e, Z7f, Z7g, Z7h, dr88x11, dr88x15, sh3, sz3, by3, ag3, kn3, ze3, ld3, li3, sto3, sh9, sz9, by9, ag9, kn9, ze9, ld9, li9, sto9, les9, ixs9, sh57, sz57, by57, ag57, kn57, el57, ze57, ld57, li57, sto57, ixi57, iai57, le57, lr57, ln57, sh66, sz66, by66, ag66, kn66, ze66, fk66, eq66, ne66, pl66, lda66, sta66, bd66, fi66x0, fi66x1, s1, s2, s3, s4, ho, c1, c2, i0, i1, i2, capA, DoneQ_keep]
  · right
    obtain rfl : k = n := by omega
    refine ⟨rfl, ?_⟩
    have : hs = [] := List.eq_nil_of_length_eq_zero (by rw [hh]; simp)
    subst this
    rw [List.append_nil] at hrow
    have i2 : ((k : Int) < (k : Int) + 1) = True := eq_true (by omega)
    have s2 := slHi (C := cfgA) (t := 57) (r := r) (st := st) (n := k) (k := k) (hi := i) sh57 sz66 (by omega) (by omega)
    have s5 : ((k : Int) + 1 - (i : Int)) = ((k + 1 - i : Nat) : Int) := by omega
    have az := fun st' => app_zeros (C := cfgA) (σ := σ) (t := 57) (st' := st') el57 by66 hrow hc (i := i) (by omega) (by omega)
    have s6 := slLoN (C := cfgA) (t := 57) (r := σ.length) (st := 0 :: p) (n := k + 1) (lo := i) sh57 sz66 (by omega)
    have s7 := slLoN (C := cfgA) (t := 57) (r := σ.length) (st := 0 :: p) (n := k + 1) (lo := i + 1) sh57 sz66 (by omega)
    simp only [Int.natCast_add, Int.cast_ofNat_Int] at s7
    have h1 : (cs.take (i * 2)).length = i * 2 := by rw [List.length_take]; omega
    have hzl : (List.replicate (k + 1 - i) (V.agg [.s .empty, .i .i64 0]).cells).flatten.length = (k + 1 - i) * 2 := by simp [V.cells]
    generalize (List.replicate (k + 1 - i) (V.agg [.s .empty, .i .i64 0]).cells).flatten = zs at az hzl
    have hz := zeros_eq hc hvl hi hzl
    have g1 : rowAt (σ ++ [.cells (0 :: p) (cs.take (i * 2) ++ zs)]) σ.length (0 :: p) = some (cs.take (i * 2) ++ zs) := by rw [rowAt_app0, rowAt_cons0]
    have g2 : rowAt (σ ++ [.cells (0 :: p) (cs.take (i * 2) ++ zs)]) r2 st2 = some vs := rowAt_old hv
    have c1 := copy_eq (C := cfgA) (t := 57) (o := i * 2) (n1 := k + 1 - i) (o2 := 0) (n2 := 1) (c1 := none) (c2 := some 1) el57 g1 g2 (by rw [List.length_append]; omega) (by omega)
    rw [show min 1 (k + 1 - i) = 1 by omega, List.drop_zero, List.take_of_length_le (l := vs) (by omega), List.take_of_length_le (l := vs) (by omega), set_app0] at c1
    simp only [List.set_cons_zero] at c1
    have hl1 : (splice (cs.take (i * 2) ++ zs) (i * 2) vs).length = (k + 1) * 2 := by
      rw [splice_length] <;> simp only [List.length_append, h1, hzl, hvl] <;> omega
    generalize splice (cs.take (i * 2) ++ zs) (i * 2) vs = row1 at c1 hz hl1
    have g3 : rowAt (σ ++ [.cells (0 :: p) row1]) σ.length (0 :: p) = some row1 := by rw [rowAt_app0, rowAt_cons0]
    have g4 : rowAt (σ ++ [.cells (0 :: p) row1]) r st = some cs := rowAt_old hrow
    have c2 := copy_eq (C := cfgA) (t := 57) (o := (i + 1) * 2) (n1 := k + 1 - (i + 1)) (o2 := i * 2) (n2 := k - i) (c1 := none) (c2 := some (k - i)) el57 g3 g4 (by omega) (by omega)
    rw [show min (k - i) (k + 1 - (i + 1)) = k - i by omega, List.take_of_length_le (l := cs.drop (i * 2)) (by rw [List.length_drop]; omega), List.take_of_length_le (l := cs.drop (i * 2)) (by rw [List.length_drop]; omega), hz, set_app0] at c2
    simp only [List.set_cons_zero] at c2
    suffices hs : ∃ res, runF cfgA 88 [.sl r st 0 k 2 (some k), .i .i64 (i : Nat), .sl r2 st2 0 1 2 (some 1)] σ p = some res ∧ ∃ st3, res = (.sl σ.length st3 0 (k + 1) 2 none, σ ++ [.cells st3 (insV i cs vs)]) by
      obtain ⟨res, h1, st3, rfl⟩ := hs
      exact ⟨st3, h1⟩
    refine run_doneP rfl rfl Try.func88 rfl ?_
    simp +contextual (disch := first | omega | exact rfl | decide | exact kpF (by decide) | exact kpT (by decide) | assumption | exact Z2z | exact Z30 | exact Z32 | exact Z31 | exact Z33 | exact Z34 | (simp only [Z6x, Z6y, Z2q, Z2g, Z6d, Z6e] <;> omega) | (simp only [Z6v, Z6w, Z7i, Z7j, Z7k, Z7l, Z2i, Z6k]) | (simp only [Z35, Z36, Z2r, Z2s, Z2t, Z2u, Z2v, Z2w, Z2x, Z2y, Z2z, Z30, Z31, Z32, Z33, Z34, Z7m, Z4a, Z4b] <;> assumption)) only [Try.f88, Z00, Z01, Z02, Z03, Z04, Z05, Z06, Z07, Z08, Z09, Z0a, Z0b, Z0c, Z0d, Z0e, Z0f, Z0g, Z0h, Z0i, Z0j, Z0k, Z0l, Z0m, Z0n, Z0o, SOp, Z0q, Z0r, Z0s, Z0t, Z0u, Z0v, Z0w, Z0x, Z0y, Z0z, Z10, Z11, Z12, GOp, Z14, Z15, Z16, Z17, Z18, Z19, Z1a, Z1b, ↓Z1c, Z1d, Z1e, Z1f, Z1g, Z1h, Z1i, Z1j, Z1k, Z1l, Z1m, Z1n, Z1o, Z1p, Int.reduceAdd, Int.reduceSub, Int.reduceMul, Int.reduceNeg, Z1q, Z1r, Z1s, Z1t, Z1u, Z1v, Z1w, Z1x, Z1y, Z1z, accs, touch, touchM, okPair, Z24, Z25, Z26, Z27, Z28, Z29, Z2a, Z2b, Z2c, Z2d, Z2e, Z2f, Z2g, Z2h, Z2i, Z2j, Z2k, Z2l, Z2m, Z2n, Z2o, Z2p, Z2q, Z2r, Z2s, Z2t, Z2u, Z2v, Z2w, Z2x, Z2y, Z2z, Z30, Z31, Z32, Z33, Z34, Z35, Z36, Z37, Z38, Z39, Z3a, Z3b, Z3c, Z3d, Z3e, Z3f, Z3g, Z3h, Z3i, Z3j, Z3k, Z3l, Nat.reduceAdd, Nat.reduceLeDiff, Nat.reduceMul, Nat.reduceSub, isV, opA, Z3o, grdO, grd, Z3r, Z3s, Z3t, Z3u, Z3v, Z3w, Z3x, Z3y, Z3z, Z40, Z41, Z42, Z43, Z44, Z45, Z46, Z47, Z48, Z49, Z4a, Z4b, Z4c, Z4d, Z4e, Z4f, Z4g, Z4h, Z4i, Z4j, Z4k, Int.reduceLT, Int.reduceLE, Int.reduceToNat, Z4l, Z4m, Z4n, Z4o, Z4p, Z4q, Z4r, Z4s, Z4t, Z4u, Z4v, Z4w, Z4x, Z4y, Z4z, Z50, Z51, Z52, Z53, Z54, Z55, Z56, Z57, Z58, Z59, Z5a, Z5b, Z5c, Z5d, Z5e, Z5f, Z5g, Z5h, Z5i, Z5j, Z5k, Z5l, Z5m, Z5n, Z5o, Z5p, Z5q, Z5r, Z5s, Z5t, Z5u, builtinP, builtinA, changes, fieldAddrA, resA, tupled, Z61, Z62, Z63, Z64, Z65, Z66, Z67, Z68, Z69, Z2q, Z6a, Z6b, Z64, Z6c, Z2m, Z6d, Z6e, Z6f, Z6g, Z6h, Z6i, Z6j, Z6k, Z6l, Z6m, Z6n, Z6o, Z6p, Z6q, Z6r, Z6s, Z6t, Z6u, Z6v, Z6w, Z6x, Z6y, Z6z, ↓reduceIte, Nat.reduceEqDiff, Nat.reduceLT, Z70, Int.reduceEq, Z3x, Z6s, Z71, Z72, Z73, Z74, Z75, Z76, Z77, Z78, Z79, Z7a, Z7b, Z7c, Z7d, Z7e, Z7f, Z7g, Z7h, dr88x11, dr88x15, sh3, sz3, by3, ag3, kn3, ze3, ld3, li3, sto3, sh9, sz9, by9, ag9, kn9, ze9, ld9, li9, sto9, les9, ixs9, sh57, sz57, by57, ag57, kn57, el57, ze57, ld57, li57, sto57, ixi57, iai57, le57, lr57, ln57, sh66, sz66, by66, ag66, kn66, ze66, fk66, eq66, ne66, pl66, lda66, sta66, bd66, fi66x0, fi66x1, az, s1, s2, s5, s6, s7, c1, c2, i0, i1, i2, capA, DoneP_keep]
    exact ⟨_, rfl⟩
end Go.Am.R1.A

/- slices.Delete of one entry, walked. -/
namespace Go.Am.R1.A
open Go.Proofs Go.Am.R1
set_option maxRecDepth 100000
set_option linter.unusedSimpArgs false
set_option linter.unusedVariables false
variable {σ : List O} {p : List Nat}
section
variable {C : Cfg} {t e B : Nat} {zv : V} {r n k : Nat} {st st' : List Nat} {row : List V}
theorem sl3 {lo hi : Nat} (hs : C.shape t = .slice e) (hz : C.size e = some 2) (h : lo < n) (h2 : lo ≤ hi) (h3 : hi ≤ n) : ∃ v, sliceA C t (.sl r st 0 n 2 (some k)) (some (.i .i64 (lo : Nat))) (some (.i .i64 (hi : Nat))) (some (.i .i64 (n : Nat))) = some v := by
  refine ⟨.sl r st (0 + lo * 2) (hi - lo) 2 (some (n - lo)), ?_⟩
  simp only [sliceA, hs, hz, Option.bind_some, ne_eq, not_true_eq_false, if_false, bnd, Int.toNat_natCast]
  rw [if_pos (by omega), if_pos (by omega)]
  simp only [Option.bind_some]
  rw [if_pos (by omega), if_pos (by omega)]
  simp only [Option.bind_some]
  rw [if_pos (by omega), if_pos (by omega)]
  simp only [Option.bind_some, if_pos h]
theorem slTail (hs : C.shape t = .slice e) (hz : C.size e = some 2) (hk : n + 1 ≤ k) : sliceA C t (.sl r st 0 n 2 (some k)) (some (.i .i64 (n : Nat))) (some (.i .i64 ((n + 1 : Nat) : Int))) none = some (.sl r st (n * 2) 1 2 (some (k - n))) := by
  simp only [sliceA, hs, hz, Option.bind_some, ne_eq, not_true_eq_false, if_false, bnd, Int.toNat_natCast, Option.getD_some]
  rw [if_pos (by omega), if_pos (by omega)]
  simp only [Option.bind_some]
  rw [if_pos (by omega), if_pos (by omega)]
  simp only [Option.bind_some]
  rw [if_neg (by omega), if_neg (by omega), if_pos (by omega)]
  simp
theorem slHi0 {hi : Nat} (hs : C.shape t = .slice e) (hz : C.size e = some 2) (h : hi ≤ k) (hn : 0 < n) : sliceA C t (.sl r st 0 n 2 (some k)) none (some (.i .i64 (hi : Nat))) none = some (.sl r st 0 hi 2 (some k)) := slHi hs hz h hn
theorem app_down {i m : Nat} (he : C.elem t = some (e, 2, zv)) (hr : rowAt σ r st = some row) (hm : 0 < m) (h1 : (i + 1) * 2 + m * 2 ≤ row.length) (hk : i + m ≤ k) (c2 : Option Nat) :
    appendA C t σ st' (.sl r st 0 i 2 (some k)) (.sl r st ((i + 1) * 2) m 2 c2) = some (.sl r st 0 (i + m) 2 (some k), σ.set r (.cells st (splice row (i * 2) ((row.drop ((i + 1) * 2)).take (m * 2))))) := by
  have h2 : take? row ((i + 1) * 2) (m * 2) = some ((row.drop ((i + 1) * 2)).take (m * 2)) := by unfold take?; rw [if_pos (by omega)]
  simp only [appendA, he, Option.bind_some, elems, if_true, hr, h2, Option.map_some]
  rw [if_neg (by omega), if_pos ⟨by omega, by simp [capFits]; omega⟩, Nat.zero_add]
theorem clear_eq {n1 : Nat} {c1 : Option Nat} (he : C.elem t = some (e, 2, .agg [.s .empty, .i .i64 0])) (hr : rowAt σ r st = some row) (h : n1 * 2 + 1 * 2 ≤ row.length) :
    clearA C t σ (.sl r st (n1 * 2) 1 2 c1) = some (.un, σ.set r (.cells st (splice row (n1 * 2) [.s .empty, .i .i64 0]))) := by
  simp only [clearA, he, Option.bind_some, if_true, hr]
  rw [if_pos (by omega)]
  rfl
end
theorem down_eq {cs hs : List V} {n i : Nat} (hc : cs.length = (n + 1) * 2) (hi : i ≤ n) :
    splice (splice (cs ++ hs) (i * 2) (((cs ++ hs).drop ((i + 1) * 2)).take ((n - i) * 2))) (n * 2) [.s .empty, .i .i64 0] = delV i cs ++ ([.s .empty, .i .i64 0] ++ hs) := by
  have e1 : ((cs ++ hs).drop ((i + 1) * 2)).take ((n - i) * 2) = cs.drop (i * 2 + 2) := by
    rw [List.drop_append_of_le_length (by omega), List.take_append_of_le_length (by rw [List.length_drop]; omega), List.take_of_length_le (by rw [List.length_drop]; omega)]
    congr 1; omega
  rw [e1]
  unfold splice delV
  have h1 : ((cs ++ hs).take (i * 2)).length = i * 2 := by rw [List.length_take, List.length_append]; omega
  have h0 : (cs ++ hs).take (i * 2) = cs.take (i * 2) := List.take_append_of_le_length (by omega)
  have h2 : (cs.drop (i * 2 + 2)).length = (n - i) * 2 := by rw [List.length_drop]; omega
  have h3 : ((cs ++ hs).take (i * 2) ++ cs.drop (i * 2 + 2)).length = n * 2 := by rw [List.length_append, h1, h2]; omega
  rw [List.take_left' h3, h2, h0]
  have h4 : (cs.take (i * 2) ++ cs.drop (i * 2 + 2)).length = n * 2 := by rw [← h0]; exact h3
  have h5 : (cs.take (i * 2) ++ cs.drop (i * 2 + 2) ++ (cs ++ hs).drop (i * 2 + (n - i) * 2)).drop (n * 2 + [V.s .empty, .i .i64 0].length) = hs := by
    rw [dropa h4, List.drop_drop]
    have : i * 2 + (n - i) * 2 + [V.s .empty, V.i .i64 0].length = cs.length := by simp; omega
    rw [this, List.drop_left]
  rw [h5]
  simp
theorem del_ok {n k i : Nat} {r : Nat} {st : List Nat} {cs hs : List V} (hrow : rowAt σ r st = some (cs ++ hs)) (hc : cs.length = n * 2) (hk : n ≤ k) (hh : hs.length = (k - n) * 2) (hi : i < n) (hb : n ≤ 1000000) :
    runF cfgA 90 [.sl r st 0 n 2 (some k), .i .i64 (i : Nat), .i .i64 ((i : Int) + 1)] σ p = some (.sl r st 0 (n - 1) 2 (some k), σ.set r (.cells st (delV i cs ++ ([.s .empty, .i .i64 0] ++ hs)))) := by
  obtain ⟨m, rfl⟩ : ∃ m, n = m + 1 := ⟨n - 1, by omega⟩
  have i0 : ((i : Int) = (i : Int) + 1) = False := eq_false (by omega)
  obtain ⟨v1, s1⟩ := sl3 (C := cfgA) (t := 57) (r := r) (st := st) (n := m + 1) (k := k) (lo := i) (hi := i + 1) sh57 sz66 hi (by omega) (by omega)
  rw [show ((i + 1 : Nat) : Int) = (i : Int) + 1 by omega] at s1
  have s2 := slHi (C := cfgA) (t := 57) (r := r) (st := st) (n := m + 1) (k := k) (hi := i) sh57 sz66 (by omega) (by omega)
  have s4 := slTail (C := cfgA) (t := 57) (r := r) (st := st) (n := m) (k := k) sh57 sz66 hk
  have hl : (cs ++ hs).length = k * 2 := by rw [List.length_append]; omega
  have hd := down_eq (hs := hs) hc (show i ≤ m by omega)
  by_cases him : i = m
  · subst him
    have s3 := slEnd (C := cfgA) (t := 57) (r := r) (st := st) (n := i + 1) (k := k) sh57 sz66
    have e0 : splice (cs ++ hs) (i * 2) (((cs ++ hs).drop ((i + 1) * 2)).take ((i - i) * 2)) = cs ++ hs := by
      rw [Nat.sub_self, Nat.zero_mul, List.take_zero]
      unfold splice
      rw [List.append_nil, List.length_nil, Nat.add_zero, List.take_append_drop]
    rw [e0] at hd
    have a1 : ∀ st', appendA cfgA 57 σ st' (.sl r st 0 i 2 (some k)) (.arr [] 0 false) = some (.sl r st 0 i 2 (some k), σ) := fun st' => by
      simp [appendA, el57, elems, take?, hrow]
    have c1 := clear_eq (C := cfgA) (t := 57) (n1 := i) (c1 := some (k - i)) el57 hrow (by omega)
    rw [hd] at c1
    rw [show ((i + 1 : Nat) : Int) = (i : Int) + 1 by omega] at s3
    refine run_done rfl rfl Try.func90 rfl ?_
    simp +contextual (disch := first | omega | exact rfl | decide | exact kpF (by decide) | exact kpT (by decide) | assumption | exact Z2z | exact Z30 | exact Z32 | exact Z31 | exact Z33 | exact Z34 | (simp only [Z6x, Z6y, Z2q, Z2g, Z6d, Z6e] <;> omega) | (simp only [Z6v, Z6w, Z7i, Z7j, Z7k, Z7l, Z2i, Z6k]) | (simp only [Z35, Z36, Z2r, Z2s, Z2t, Z2u, Z2v, Z2w, Z2x, Z2y, Z2z, Z30, Z31, Z32, Z33, Z34, Z7m, Z4a, Z4b] <;> assumption)) only [Try.f90, Z00, Z01, Z02, Z03, Z04, Z05, Z06, Z07, Z08, Z09, Z0a, Z0b, Z0c, Z0d, Z0e, Z0f, Z0g, Z0h, Z0i, Z0j, Z0k, Z0l, Z0m, Z0n, Z0o, SOp, Z0q, Z0r, Z0s, Z0t, Z0u, Z0v, Z0w, Z0x, Z0y, Z0z, Z10, Z11, Z12, GOp, Z14, Z15, Z16, Z17, Z18, Z19, Z1a, Z1b, ↓Z1c, Z1d, Z1e, Z1f, Z1g, Z1h, Z1i, Z1j, Z1k, Z1l, Z1m, Z1n, Z1o, Z1p, Int.reduceAdd, Int.reduceSub, Int.reduceMul, Int.reduceNeg, Z1q, Z1r, Z1s, Z1t, Z1u, Z1v, Z1w, Z1x, Z1y, Z1z, accs, touch, touchM, okPair, Z24, Z25, Z26, Z27, Z28, Z29, Z2a, Z2b, Z2c, Z2d, Z2e, Z2f, Z2g, Z2h, Z2i, Z2j, Z2k, Z2l, Z2m, Z2n, Z2o, Z2p, Z2q, Z2r, Z2s, Z2t, Z2u, Z2v, Z2w, Z2x, Z2y, Z2z, Z30, Z31, Z32, Z33, Z34, Z35, Z36, Z37, Z38, Z39, Z3a, Z3b, Z3c, Z3d, Z3e, Z3f, Z3g, Z3h, Z3i, Z3j, Z3k, Z3l, Nat.reduceAdd, Nat.reduceLeDiff, Nat.reduceMul, Nat.reduceSub, isV, opA, Z3o, grdO, grd, Z3r, Z3s, Z3t, Z3u, Z3v, Z3w, Z3x, Z3y, Z3z, Z40, Z41, Z42, Z43, Z44, Z45, Z46, Z47, Z48, Z49, Z4a, Z4b, Z4c, Z4d, Z4e, Z4f, Z4g, Z4h, Z4i, Z4j, Z4k, Int.reduceLT, Int.reduceLE, Int.reduceToNat, Z4l, Z4m, Z4n, Z4o, Z4p, Z4q, Z4r, Z4s, Z4t, Z4u, Z4v, Z4w, Z4x, Z4y, Z4z, Z50, Z51, Z52, Z53, Z54, Z55, Z56, Z57, Z58, Z59, Z5a, Z5b, Z5c, Z5d, Z5e, Z5f, Z5g, Z5h, Z5i, Z5j, Z5k, Z5l, Z5m, Z5n, Z5o, Z5p, Z5q, Z5r, Z5s, Z5t, Z5u, builtinP, builtinA, changes, fieldAddrA, resA, tupled, Z61, Z62, Z63, Z64, Z65, Z66, Z67, Z68, Z69, Z2q, Z6a, Z6b, Z64, Z6c, Z2m, Z6d, Z6e, Z6f, Z6g, Z6h, Z6i, Z6j, Z6k, Z6l, Z6m, Z6n, Z6o, Z6p, Z6q, Z6r, Z6s, Z6t, Z6u, Z6v, Z6w, Z6x, Z6y, Z6z, ↓reduceIte, Nat.reduceEqDiff, Nat.reduceLT, Z70, Int.reduceEq, Z3x, Z6s, Z71, Z72, Z73, Z74, Z75, Z76, Z77, Z78, Z79, Z7a, Z7b, Z7c, Z7d, Z7e, Z7f, Z7g, Z7h, dr90x5, sh3, sz3, by3, ag3, kn3, ze3, ld3, li3, sto3, sh9, sz9, by9, ag9, kn9, ze9, ld9, li9, sto9, les9, ixs9, sh57, sz57, by57, ag57, kn57, el57, ze57, ld57, li57, sto57, ixi57, iai57, le57, lr57, ln57, sh66, sz66, by66, ag66, kn66, ze66, fk66, eq66, ne66, pl66, lda66, sta66, bd66, fi66x0, fi66x1, s1, s2, s3, s4, a1, c1, i0, DoneQ_keep]
    rfl
  · have s3 := slLo (C := cfgA) (t := 57) (r := r) (st := st) (n := m + 1) (k := k) (lo := i + 1) sh57 sz66 (by omega)
    have a1 := fun st' => app_down (C := cfgA) (t := 57) (σ := σ) (st' := st') (i := i) (m := m + 1 - (i + 1)) (k := k) el57 hrow (by omega) (by omega) (by omega) (some (k - (i + 1)))
    rw [show i + (m + 1 - (i + 1)) = m by omega, show m + 1 - (i + 1) = m - i by omega] at a1
    rw [show m + 1 - (i + 1) = m - i by omega] at s3
    have hl1 : (splice (cs ++ hs) (i * 2) (((cs ++ hs).drop ((i + 1) * 2)).take ((m - i) * 2))).length = k * 2 := by
      rw [splice_length, hl]
      simp only [List.length_take, List.length_drop, hl]; omega
    generalize splice (cs ++ hs) (i * 2) (((cs ++ hs).drop ((i + 1) * 2)).take ((m - i) * 2)) = row1 at a1 hd hl1
    have r1 := row_set_self (st' := st) (cs' := row1) hrow
    have hset : ∀ x, (σ.set r (.cells st row1)).set r x = σ.set r x := fun x => List.set_set ..
    generalize σ.set r (.cells st row1) = σ1 at a1 r1 hset
    have c1 := clear_eq (C := cfgA) (t := 57) (n1 := m) (c1 := some (k - m)) el57 r1 (by omega)
    rw [hd, hset] at c1
    rw [show ((i + 1 : Nat) : Int) = (i : Int) + 1 by omega] at s3
    refine run_done rfl rfl Try.func90 rfl ?_
    simp +contextual (disch := first | omega | exact rfl | decide | exact kpF (by decide) | exact kpT (by decide) | assumption | exact Z2z | exact Z30 | exact Z32 | exact Z31 | exact Z33 | exact Z34 | (simp only [Z6x, Z6y, Z2q, Z2g, Z6d, Z6e] <;> omega) | (simp only [Z6v, Z6w, Z7i, Z7j, Z7k, Z7l, Z2i, Z6k]) | (simp only [Z35, Z36, Z2r, Z2s, Z2t, Z2u, Z2v, Z2w, Z2x, Z2y, Z2z, Z30, Z31, Z32, Z33, Z34, Z7m, Z4a, Z4b] <;> assumption)) only [Try.f90, Z00, Z01, Z02, Z03, Z04, Z05, Z06, Z07, Z08, Z09, Z0a, Z0b, Z0c, Z0d, Z0e, Z0f, Z0g, Z0h, Z0i, Z0j, Z0k, Z0l, Z0m, Z0n, Z0o, SOp, Z0q, Z0r, Z0s, Z0t, Z0u, Z0v, Z0w, Z0x, Z0y, Z0z, Z10, Z11, Z12, GOp, Z14, Z15, Z16, Z17, Z18, Z19, Z1a, Z1b, ↓Z1c, Z1d, Z1e, Z1f, Z1g, Z1h, Z1i, Z1j, Z1k, Z1l, Z1m, Z1n, Z1o, Z1p, Int.reduceAdd, Int.reduceSub, Int.reduceMul, Int.reduceNeg, Z1q, Z1r, Z1s, Z1t, Z1u, Z1v, Z1w, Z1x, Z1y, Z1z, accs, touch, touchM, okPair, Z24, Z25, Z26, Z27, Z28, Z29, Z2a, Z2b, Z2c, Z2d, Z2e, Z2f, Z2g, Z2h, Z2i, Z2j, Z2k, Z2l, Z2m, Z2n, Z2o, Z2p, Z2q, Z2r, Z2s, Z2t, Z2u, Z2v, Z2w, Z2x, Z2y, Z2z, Z30, Z31, Z32, Z33, Z34, Z35, Z36, Z37, Z38, Z39, Z3a, Z3b, Z3c, Z3d, Z3e, Z3f, Z3g, Z3h, Z3i, Z3j, Z3k, Z3l, Nat.reduceAdd, Nat.reduceLeDiff, Nat.reduceMul, Nat.reduceSub, isV, opA, Z3o, grdO, grd, Z3r, Z3s, Z3t, Z3u, Z3v, Z3w, Z3x, Z3y, Z3z, Z40, Z41, Z42, Z43, Z44, Z45, Z46, Z47, Z48, Z49, Z4a, Z4b, Z4c, Z4d, Z4e, Z4f, Z4g, Z4h, Z4i, Z4j, Z4k, Int.reduceLT, Int.reduceLE, Int.reduceToNat, Z4l, Z4m, Z4n, Z4o, Z4p, Z4q, Z4r, Z4s, Z4t, Z4u, Z4v, Z4w, Z4x, Z4y, Z4z, Z50, Z51, Z52, Z53, Z54, Z55, Z56, Z57, Z58, Z59, Z5a, Z5b, Z5c, Z5d, Z5e, Z5f, Z5g, Z5h, Z5i, Z5j, Z5k, Z5l, Z5m, Z5n, Z5o, Z5p, Z5q, Z5r, Z5s, Z5t, Z5u, builtinP, builtinA, changes, fieldAddrA, resA, tupled, Z61, Z62, Z63, Z64, Z65, Z66, Z67, Z68, Z69, Z2q, Z6a, Z6b, Z64, Z6c, Z2m, Z6d, Z6e, Z6f, Z6g, Z6h, Z6i, Z6j, Z6k, Z6l, Z6m, Z6n, Z6o, Z6p, Z6q, Z6r, Z6s, Z6t, Z6u, Z6v, Z6w, Z6x, Z6y, Z6z, ↓reduceIte, Nat.reduceEqDiff, Nat.reduceLT, Z70, Int.reduceEq, Z3x, Z6s, Z71, Z72, Z73, Z74, Z75, Z76, Z77, Z78, Z79, Z7a, Z7b, Z7c, Z7d, Z7e, Z7f, Z7g, Z7h, dr90x5, sh3, sz3, by3, ag3, kn3, ze3, ld3, li3, sto3, sh9, sz9, by9, ag9, kn9, ze9, ld9, li9, sto9, les9, ixs9, sh57, sz57, by57, ag57, kn57, el57, ze57, ld57, li57, sto57, ixi57, iai57, le57, lr57, ln57, sh66, sz66, by66, ag66, kn66, ze66, fk66, eq66, ne66, pl66, lda66, sta66, bd66, fi66x0, fi66x1, s1, s2, s3, s4, a1, c1, i0, DoneQ_keep]
    rfl
end Go.Am.R1.A

/- What is put in between, and taken out: as told. -/
namespace Go.Am.R1.A
open Go.Proofs Go.Am.R1
set_option maxRecDepth 100000
set_option linter.unusedSimpArgs false
set_option linter.unusedVariables false
variable {σ : List O} {p : List Nat}
theorem callA : CallOk cfgA (runF cfgA) := callOk_F (run_sound primsA fnsA (draw_sound mixed))
theorem ent88 (cargs : Array Value) (w : World) : (callFunc 88 cargs).run cfgA.P w = .ok (.enter 88 cargs) w := run_callFunc (C := cfgA) (by kernel_rfl) Try.func88 rfl cargs w
theorem ent90 (cargs : Array Value) (w : World) : (callFunc 90 cargs).run cfgA.P w = .ok (.enter 90 cargs) w := run_callFunc (C := cfgA) (by kernel_rfl) Try.func90 rfl cargs w
theorem ins_none {r2 : Nat} {st2 : List Nat} {vs : List V} (hv : rowAt σ r2 st2 = some vs) (hvl : vs.length = 2) : runF cfgA 88 [.nils, .i .i64 0, .sl r2 st2 0 1 2 (some 1)] σ p = some (.sl σ.length (0 :: p) 0 1 2 none, σ ++ [.cells (0 :: p) vs]) := by
  have i0 : ((1 : Int) = 0) = False := eq_false (by omega)
  have he : elems 2 σ (.sl r2 st2 0 1 2 (some 1)) = some (1, vs) := by simp only [elems, if_true, hv, Option.bind_some, take_all' (show vs.length = 1 * 2 by omega), Option.map_some]
  have ha := fun st' => app0 (C := cfgA) (t := 57) (σ := σ) (st' := st') (m := 0) el57 by66 he (by omega)
  have s1 : sliceA cfgA 57 .nils (some (.i .i64 0)) none none = some .nils := by simp [sliceA, sh57, sz66, bnd]
  refine run_done rfl rfl Try.func88 rfl ?_
  simp +contextual (disch := first | omega | exact rfl | decide | exact kpF (by decide) | exact kpT (by decide) | assumption | exact Z2z | exact Z30 | exact Z32 | exact Z31 | exact Z33 | exact Z34 | (simp only [Z6x, Z6y, Z2q, Z2g, Z6d, Z6e] <;> omega) | (simp only [Z6v, Z6w, Z7i, Z7j, Z7k, Z7l, Z2i, Z6k]) | (simp only [Z35, Z36, Z2r, Z2s, Z2t, Z2u, Z2v, Z2w, Z2x, Z2y, Z2z, Z30, Z31, Z32, Z33, Z34, Z7m, Z4a, Z4b] <;> assumption)) only [Try.f88, Z00, Z01, Z02, Z03, Z04, Z05, Z06, Z07, Z08, Z09, Z0a, Z0b, Z0c, Z0d, Z0e, Z0f, Z0g, Z0h, Z0i, Z0j, Z0k, Z0l, Z0m, Z0n, Z0o, SOp, Z0q, Z0r, Z0s, Z0t, Z0u, Z0v, Z0w, Z0x, Z0y, Z0z, Z10, Z11, Z12, GOp, Z14, Z15, Z16, Z17, Z18, Z19, Z1a, Z1b, ↓Z1c, Z1d, Z1e, Z1f, Z1g, Z1h, Z1i, Z1j, Z1k, Z1l, Z1m, Z1n, Z1o, Z1p, Int.reduceAdd, Int.reduceSub, Int.reduceMul, Int.reduceNeg, Z1q, Z1r, Z1s, Z1t, Z1u, Z1v, Z1w, Z1x, Z1y, Z1z, accs, touch, touchM, okPair, Z24, Z25, Z26, Z27, Z28, Z29, Z2a, Z2b, Z2c, Z2d, Z2e, Z2f, Z2g, Z2h, Z2i, Z2j, Z2k, Z2l, Z2m, Z2n, Z2o, Z2p, Z2q, Z2r, Z2s, Z2t, Z2u, Z2v, Z2w, Z2x, Z2y, Z2z, Z30, Z31, Z32, Z33, Z34, Z35, Z36, Z37, Z38, Z39, Z3a, Z3b, Z3c, Z3d, Z3e, Z3f, Z3g, Z3h, Z3i, Z3j, Z3k, Z3l, Nat.reduceAdd, Nat.reduceLeDiff, Nat.reduceMul, Nat.reduceSub, isV, opA, Z3o, grdO, grd, Z3r, Z3s, Z3t, Z3u, Z3v, Z3w, Z3x, Z3y, Z3z, Z40, Z41, Z42, Z43, Z44, Z45, Z46, Z47, Z48, Z49, Z4a, Z4b, Z4c, Z4d, Z4e, Z4f, Z4g, Z4h, Z4i, Z4j, Z4k, Int.reduceLT, Int.reduceLE, Int.reduceToNat, Z4l, Z4m, Z4n, Z4o, Z4p, Z4q, Z4r, Z4s, Z4t, Z4u, Z4v, Z4w, Z4x, Z4y, Z4z, Z50, Z51, Z52, Z53, Z54, Z55, Z56, Z57, Z58, Z59, Z5a, Z5b, Z5c, Z5d, Z5e, Z5f, Z5g, Z5h, Z5i, Z5j, Z5k, Z5l, Z5m, Z5n, Z5o, Z5p, Z5q, Z5r, Z5s, Z5t, Z5u, builtinP, builtinA, changes, fieldAddrA, resA, tupled, Z61, Z62, Z63, Z64, Z65, Z66, Z67, Z68, Z69, Z2q, Z6a, Z6b, Z64, Z6c, Z2m, Z6d, Z6e, Z6f, Z6g, Z6h, Z6i, Z6j, Z6k, Z6l, Z6m, Z6n, Z6o, Z6p, Z6q, Z6r, Z6s, Z6t, Z6u, Z6v, Z6w, Z6x, Z6y, Z6z, ↓reduceIte, Nat.reduceEqDiff, Nat.reduceLT, Z70, Int.reduceEq, Z3x, Z6s, Z71, Z72, Z73, Z74, Z75, Z76, Z77, Z78, Z79, Z7a, Z7b, Z7c, Z7d, Z7e, Z7f, Z7g, Z7h, dr88x11, dr88x15, sh3, sz3, by3, ag3, kn3, ze3, ld3, li3, sto3, sh9, sz9, by9, ag9, kn9, ze9, ld9, li9, sto9, les9, ixs9, sh57, sz57, by57, ag57, kn57, el57, ze57, ld57, li57, sto57, ixi57, iai57, le57, lr57, ln57, sh66, sz66, by66, ag66, kn66, ze66, fk66, eq66, ne66, pl66, lda66, sta66, bd66, fi66x0, fi66x1, ha, s1, i0, DoneQ_keep]
theorem ins_empty {r2 : Nat} {st2 : List Nat} {vs : List V} (hv : rowAt σ r2 st2 = some vs) (hvl : vs.length = 2) : runF cfgA 88 [.arr [] 0 true, .i .i64 0, .sl r2 st2 0 1 2 (some 1)] σ p = some (.sl σ.length (0 :: p) 0 1 2 none, σ ++ [.cells (0 :: p) vs]) := by
  have i0 : ((1 : Int) = 0) = False := eq_false (by omega)
  have he : elems 2 σ (.sl r2 st2 0 1 2 (some 1)) = some (1, vs) := by simp only [elems, if_true, hv, Option.bind_some, take_all' (show vs.length = 1 * 2 by omega), Option.map_some]
  have ha := fun st' => app_empty (C := cfgA) (t := 57) (σ := σ) (st' := st') (m := 0) el57 by66 he (by omega)
  have s1 : sliceA cfgA 57 (.arr [] 0 true) (some (.i .i64 0)) none none = some (.arr [] 0 true) := by simp [sliceA, sh57, sz66, bnd]
  refine run_done rfl rfl Try.func88 rfl ?_
  simp +contextual (disch := first | omega | exact rfl | decide | exact kpF (by decide) | exact kpT (by decide) | assumption | exact Z2z | exact Z30 | exact Z32 | exact Z31 | exact Z33 | exact Z34 | (simp only [Z6x, Z6y, Z2q, Z2g, Z6d, Z6e] <;> omega) | (simp only [Z6v, Z6w, Z7i, Z7j, Z7k, Z7l, Z2i, Z6k]) | (simp only [Z35, Z36, Z2r, Z2s, Z2t, Z2u, Z2v, Z2w, Z2x, Z2y, Z2z, Z30, Z31, Z32, Z33, Z34, Z7m, Z4a, Z4b] <;> assumption)) only [Try.f88, Z00, Z01, Z02, Z03, Z04, Z05, Z06, Z07, Z08, Z09, Z0a, Z0b, Z0c, Z0d, Z0e, Z0f, Z0g, Z0h, Z0i, Z0j, Z0k, Z0l, Z0m, Z0n, Z0o, SOp, Z0q, Z0r, Z0s, Z0t, Z0u, Z0v, Z0w, Z0x, Z0y, Z0z, Z10, Z11, Z12, GOp, Z14, Z15, Z16, Z17, Z18, Z19, Z1a, Z1b, ↓Z1c, Z1d, Z1e, Z1f, Z1g, Z1h, Z1i, Z1j, Z1k, Z1l, Z1m, Z1n, Z1o, Z1p, Int.reduceAdd, Int.reduceSub, Int.reduceMul, Int.reduceNeg, Z1q, Z1r, Z1s, Z1t, Z1u, Z1v, Z1w, Z1x, Z1y, Z1z, accs, touch, touchM, okPair, Z24, Z25, Z26, Z27, Z28, Z29, Z2a, Z2b, Z2c, Z2d, Z2e, Z2f, Z2g, Z2h, Z2i, Z2j, Z2k, Z2l, Z2m, Z2n, Z2o, Z2p, Z2q, Z2r, Z2s, Z2t, Z2u, Z2v, Z2w, Z2x, Z2y, Z2z, Z30, Z31, Z32, Z33, Z34, Z35, Z36, Z37, Z38, Z39, Z3a, Z3b, Z3c, Z3d, Z3e, Z3f, Z3g, Z3h, Z3i, Z3j, Z3k, Z3l, Nat.reduceAdd, Nat.reduceLeDiff, Nat.reduceMul, Nat.reduceSub, isV, opA, Z3o, grdO, grd, Z3r, Z3s, Z3t, Z3u, Z3v, Z3w, Z3x, Z3y, Z3z, Z40, Z41, Z42, Z43, Z44, Z45, Z46, Z47, Z48, Z49, Z4a, Z4b, Z4c, Z4d, Z4e, Z4f, Z4g, Z4h, Z4i, Z4j, Z4k, Int.reduceLT, Int.reduceLE, Int.reduceToNat, Z4l, Z4m, Z4n, Z4o, Z4p, Z4q, Z4r, Z4s, Z4t, Z4u, Z4v, Z4w, Z4x, Z4y, Z4z, Z50, Z51, Z52, Z53, Z54, Z55, Z56, Z57, Z58, Z59, Z5a, Z5b, Z5c, Z5d, Z5e, Z5f, Z5g, Z5h, Z5i, Z5j, Z5k, Z5l, Z5m, Z5n, Z5o, Z5p, Z5q, Z5r, Z5s, Z5t, Z5u, builtinP, builtinA, changes, fieldAddrA, resA, tupled, Z61, Z62, Z63, Z64, Z65, Z66, Z67, Z68, Z69, Z2q, Z6a, Z6b, Z64, Z6c, Z2m, Z6d, Z6e, Z6f, Z6g, Z6h, Z6i, Z6j, Z6k, Z6l, Z6m, Z6n, Z6o, Z6p, Z6q, Z6r, Z6s, Z6t, Z6u, Z6v, Z6w, Z6x, Z6y, Z6z, ↓reduceIte, Nat.reduceEqDiff, Nat.reduceLT, Z70, Int.reduceEq, Z3x, Z6s, Z71, Z72, Z73, Z74, Z75, Z76, Z77, Z78, Z79, Z7a, Z7b, Z7c, Z7d, Z7e, Z7f, Z7g, Z7h, dr88x11, dr88x15, sh3, sz3, by3, ag3, kn3, ze3, ld3, li3, sto3, sh9, sz9, by9, ag9, kn9, ze9, ld9, li9, sto9, les9, ixs9, sh57, sz57, by57, ag57, kn57, el57, ze57, ld57, li57, sto57, ixi57, iai57, le57, lr57, ln57, sh66, sz66, by66, ag66, kn66, ze66, fk66, eq66, ne66, pl66, lda66, sta66, bd66, fi66x0, fi66x1, ha, s1, i0, DoneQ_keep]
theorem ins_at : CallOkAt cfgA 88 pIns := by
  intro B0 args σ p v σ' hv M w cargs hM hG hr hfm hfs
  unfold pIns at hv
  split at hv
  · rename_i r st o n z i r2 st2 o2 n2 z2 c2
    simp only [Option.bind_eq_some_iff] at hv
    obtain ⟨cs, h1, vs, h2, hv⟩ := hv
    split at hv
    · rename_i hc
      obtain ⟨rfl, rfl, rfl, rfl, rfl, rfl, hcl, hvl, hne, hi0, hin, hn0, hnb⟩ := hc
      cases hv
      obtain ⟨i, rfl⟩ : ∃ j : Nat, i = j := ⟨i.toNat, by omega⟩
      rw [Int.toNat_natCast]
      refine reveal_call callA ent88 (row_eq h1) hcl (fun k hs k1 k2 k3 => ?_) M w cargs hM hG hr hfm hfs
      have g1 := row_set_self (st' := st) (cs' := cs ++ hs) h1
      have g2 : rowAt (σ.set r (.cells st (cs ++ hs))) r2 st2 = some vs := by rw [row_set_ne hne]; exact h2
      have hd : ∀ x ∈ hs.drop 2, plainV x = true := fun x hx => k3 x (List.mem_of_mem_drop hx)
      by_cases hlt : i < n
      · rcases ins_mid (p := 0 :: p) g1 hcl k1 k2 g2 hvl hne hlt hnb with h | ⟨_, st3, h⟩
        · rw [List.set_set] at h; exact .inl ⟨_, h, hd⟩
        · rw [List.length_set] at h; exact .inr ⟨st3, h⟩
      · obtain rfl : i = n := by omega
        rcases ins_end (p := 0 :: p) g1 hcl k1 k2 g2 hvl hne hn0 hnb with h | ⟨_, st3, h⟩
        · rw [List.set_set] at h; exact .inl ⟨_, h, hd⟩
        · rw [List.length_set] at h; exact .inr ⟨st3, h⟩
    · cases hv
  · rename_i i r2 st2 o2 n2 z2 c2
    simp only [Option.bind_eq_some_iff] at hv
    obtain ⟨vs, h2, hv⟩ := hv
    split at hv
    · rename_i hc
      obtain ⟨rfl, rfl, rfl, rfl, hvl, rfl⟩ := hc
      cases hv
      exact callA B0 88 _ σ p _ _ (ins_none h2 hvl) M w cargs hM hG hr hfm hfs
    · cases hv
  · rename_i cs n cl i r2 st2 o2 n2 z2 c2
    simp only [Option.bind_eq_some_iff] at hv
    obtain ⟨vs, h2, hv⟩ := hv
    split at hv
    · rename_i hc
      obtain ⟨rfl, rfl, rfl, rfl, rfl, rfl, rfl, hvl, rfl⟩ := hc
      cases hv
      exact callA B0 88 _ σ p _ _ (ins_empty h2 hvl) M w cargs hM hG hr hfm hfs
    · cases hv
  · cases hv
theorem del_at : CallOkAt cfgA 90 pDel := by
  intro B0 args σ p v σ' hv M w cargs hM hG hr hfm hfs
  unfold pDel at hv
  split at hv
  · rename_i r st o n z i j
    simp only [Option.bind_eq_some_iff] at hv
    obtain ⟨cs, h1, hv⟩ := hv
    split at hv
    · rename_i hc
      obtain ⟨rfl, rfl, hcl, hi0, hin, rfl, hnb⟩ := hc
      cases hv
      obtain ⟨i, rfl⟩ : ∃ j : Nat, i = j := ⟨i.toNat, by omega⟩
      rw [Int.toNat_natCast]
      refine reveal_call callA ent90 (row_eq h1) hcl (fun k hs k1 k2 k3 => ?_) M w cargs hM hG hr hfm hfs
      have g1 := row_set_self (st' := st) (cs' := cs ++ hs) h1
      have h := del_ok (p := 0 :: p) (i := i) g1 hcl k1 k2 (by omega) hnb
      rw [List.set_set] at h
      refine .inl ⟨_, h, fun x hx => ?_⟩
      rcases List.mem_append.1 hx with hx | hx
      · simp at hx; rcases hx with rfl | rfl <;> rfl
      · exact k3 x hx
    · cases hv
  · cases hv
theorem callAt_to {C C' : Cfg} {f : Nat} {g : List V → List O → List Nat → Option (V × List O)} (h : CallOkAt C f g) (hP : C.P = C'.P) (hG : C.glob = C'.glob) : CallOkAt C' f g := by
  intro B0 args σ p v σ' hr M w cargs hM hg ha h1 h2
  rw [← hP]
  exact h B0 args σ p v σ' hr M w cargs hM ⟨fun g cs hc => hg.glob g cs (by rw [← hG]; exact hc)⟩ ha h1 h2
theorem pm_at (C' : Cfg) (hP : cfgA.P = C'.P) (hG : cfgA.glob = C'.glob) : ∀ f g, pmT f = some g → CallOkAt C' f g := by
  intro f g h
  unfold pmT at h
  split at h
  · rename_i e; subst e; cases h; exact callAt_to ins_at hP hG
  · split at h
    · rename_i e; subst e; cases h; exact callAt_to del_at hP hG
    · cases h
end Go.Am.R1.A
namespace Go.Am.R1
theorem primsB : PrimOk cfgB := ⟨primOk_of (primAt cfgB rfl), A.pm_at cfgB rfl rfl, hook_none fun _ _ => rfl⟩
theorem callB : CallOk cfgB (runF cfgB) := callOk_F (run_sound primsB fnsB (draw_sound mixed))
end Go.Am.R1
