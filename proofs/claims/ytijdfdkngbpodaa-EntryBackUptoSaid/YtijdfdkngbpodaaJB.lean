/- Parts of one machine and of the walks over it, joined: KB0 KB1 KB2 KB3. -/
import Derived.Test.YtijdfdkngbpodaaJH
import Derived.Test.YtijdfdkngbpodaaAmFlat
import Derived.Test.YtijdfdkngbpodaaAmGuard
import Derived.Test.YtijdfdkngbpodaaJA
import Derived.Test.YtijdfdkngbpodaaJ0
/- Facts of types, for the machine B. -/
namespace Go.Am.R1.B
open Go.Proofs Go.Am.R1
set_option maxRecDepth 100000
set_option linter.unusedVariables false
set_option linter.unusedSimpArgs false
theorem kpF {f : Nat} {p : List Nat} (h : [19, 52, 88, 89, 90, 42, 44].contains f = false) : cfgB.keep f p = false := keepT_no h
theorem kpT {f : Nat} {p : List Nat} (h : [19, 52, 88, 89, 90].contains f = true) : cfgB.keep f p = true := keepT_yes h
theorem sh3 : cfgB.shape 3 = .int .i64 := by kernel_rfl
theorem sz3 : cfgB.size 3 = some 1 := by kernel_rfl
theorem by3 : cfgB.bytes 3 = 8 := by kernel_rfl
theorem ag3 : cfgB.isAgg 3 = some false := by kernel_rfl
theorem kn3 : known cfgB 3 = true := by kernel_rfl
theorem ze3 : cfgB.zero 3 = some (.i .i64 0) := by kernel_rfl
theorem sh9 : cfgB.shape 9 = .string := by kernel_rfl
theorem sz9 : cfgB.size 9 = some 1 := by kernel_rfl
theorem by9 : cfgB.bytes 9 = 16 := by kernel_rfl
theorem ag9 : cfgB.isAgg 9 = some false := by kernel_rfl
theorem kn9 : known cfgB 9 = true := by kernel_rfl
theorem ze9 : cfgB.zero 9 = some (.s .empty) := by kernel_rfl
theorem sh57 : cfgB.shape 57 = .slice 66 := by kernel_rfl
theorem sz57 : cfgB.size 57 = some 1 := by kernel_rfl
theorem by57 : cfgB.bytes 57 = 24 := by kernel_rfl
theorem ag57 : cfgB.isAgg 57 = some false := by kernel_rfl
theorem kn57 : known cfgB 57 = true := by kernel_rfl
theorem el57 : cfgB.elem 57 = some (66, 2, (.agg [(.s .empty), (.i .i64 0)])) := by kernel_rfl
theorem ze57 : cfgB.zero 57 = some .nils := by kernel_rfl
theorem sh66 : cfgB.shape 66 = .other := by kernel_rfl
theorem sz66 : cfgB.size 66 = some 2 := by kernel_rfl
theorem by66 : cfgB.bytes 66 = 24 := by kernel_rfl
theorem ag66 : cfgB.isAgg 66 = some true := by kernel_rfl
theorem kn66 : known cfgB 66 = true := by kernel_rfl
theorem ze66 : cfgB.zero 66 = some (.agg [(.s .empty), (.i .i64 0)]) := by kernel_rfl
theorem fk66 : flat cfgB 20 66 = some ([.s] ++ [(.i .i64)] : List Fk) := by kernel_rfl
theorem pl66 : cfgB.places 66 = some [(0, 1), (1, 1)] := by kernel_rfl
theorem ld3 {σ : List O} {r o : Nat} {st : List Nat} : loadA cfgB 3 σ (.ptr r st o) = (rowAt σ r st).bind fun cs => cs[o]? := load_sc ag3
theorem li3 {σ : List O} {cs : List V} : loadA cfgB 3 σ (.iptr cs) = cs[0]? := load_ip ag3
theorem sto3 {σ : List O} {r o : Nat} {st : List Nat} {v : V} (hv : v.one = true) : storeA cfgB 3 σ (.ptr r st o) v = (rowAt σ r st).bind fun cs => if o < cs.length then some (σ.set r (.cells st (cs.set o v))) else none := store_sc sz3 hv
theorem ld9 {σ : List O} {r o : Nat} {st : List Nat} : loadA cfgB 9 σ (.ptr r st o) = (rowAt σ r st).bind fun cs => cs[o]? := load_sc ag9
theorem li9 {σ : List O} {cs : List V} : loadA cfgB 9 σ (.iptr cs) = cs[0]? := load_ip ag9
theorem sto9 {σ : List O} {r o : Nat} {st : List Nat} {v : V} (hv : v.one = true) : storeA cfgB 9 σ (.ptr r st o) v = (rowAt σ r st).bind fun cs => if o < cs.length then some (σ.set r (.cells st (cs.set o v))) else none := store_sc sz9 hv
theorem les9 {σ : List O} {b : ByteArray} : lenA cfgB 9 σ (.s b) = some (.i .i64 b.size) := len_str sh9
theorem ixs9 {i : Int} {b : ByteArray} {k : IntKind} (h0 : 0 ≤ i) (h1 : i < b.size) : indexA cfgB 9 (.s b) (.i k i) = (b[i.toNat]?).map fun x => .i .u8 x.toNat := ixs sh9 h0 h1
theorem ld57 {σ : List O} {r o : Nat} {st : List Nat} : loadA cfgB 57 σ (.ptr r st o) = (rowAt σ r st).bind fun cs => cs[o]? := load_sc ag57
theorem li57 {σ : List O} {cs : List V} : loadA cfgB 57 σ (.iptr cs) = cs[0]? := load_ip ag57
theorem sto57 {σ : List O} {r o : Nat} {st : List Nat} {v : V} (hv : v.one = true) : storeA cfgB 57 σ (.ptr r st o) v = (rowAt σ r st).bind fun cs => if o < cs.length then some (σ.set r (.cells st (cs.set o v))) else none := store_sc sz57 hv
theorem ixi57 {r o n : Nat} {i : Int} {st : List Nat} {cap : Option Nat} {k : IntKind} (h0 : 0 ≤ i) (h1 : i < n) : indexAddrA cfgB 57 (.sl r st o n 2 cap) (.i k i) = some (.ptr r st (o + i.toNat * 2)) := ixi sh57 sz66 h0 h1
theorem iai57 {n : Nat} {i : Int} {cs : List V} {cl : Bool} {k : IntKind} (h0 : 0 ≤ i) (h1 : i < n) : indexAddrA cfgB 57 (.arr cs n cl) (.i k i) = some (.iptr (cs.drop (i.toNat * 2))) := iai sh57 sz66 h0 h1
theorem le57 {σ : List O} {r o n es : Nat} {st : List Nat} {cap : Option Nat} : lenA cfgB 57 σ (.sl r st o n es cap) = some (.i .i64 n) := len_sl sh57
theorem lr57 {σ : List O} {n : Nat} {cs : List V} {cl : Bool} : lenA cfgB 57 σ (.arr cs n cl) = some (.i .i64 n) := len_arr sh57
theorem ln57 {σ : List O} : lenA cfgB 57 σ .nils = some (.i .i64 0) := len_nils sh57
theorem eq66 {x y : Operand} {us vs : List V} (hu : us.map V.fk = ([.s] ++ [(.i .i64)] : List Fk).map some) (hv : vs.map V.fk = ([.s] ++ [(.i .i64)] : List Fk).map some) : binA cfgB .eql 66 x y (.agg us) (.agg vs) = some (.b (eqB us vs)) := (binA_flat fk66 ag66 (by kernel_rfl) hu hv).1
theorem ne66 {x y : Operand} {us vs : List V} (hu : us.map V.fk = ([.s] ++ [(.i .i64)] : List Fk).map some) (hv : vs.map V.fk = ([.s] ++ [(.i .i64)] : List Fk).map some) : binA cfgB .neq 66 x y (.agg us) (.agg vs) = some (.b (!eqB us vs)) := (binA_flat fk66 ag66 (by kernel_rfl) hu hv).2
theorem lda66 {σ : List O} {r o : Nat} {st : List Nat} : loadA cfgB 66 σ (.ptr r st o) = (rowAt σ r st).bind fun cs => (take? cs o 2).map V.agg := load_agg ag66 sz66 (by decide)
theorem sta66 {σ : List O} {r o : Nat} {st : List Nat} {us : List V} (hl : us.length = 2) (ho : us.all V.one = true) : storeA cfgB 66 σ (.ptr r st o) (.agg us) = (rowAt σ r st).bind fun cs => if o + 2 ≤ cs.length then some (σ.set r (.cells st (splice cs o us))) else none := store_agg sz66 hl ho
theorem bd66 {parts : List (Nat × V)} : buildA cfgB 66 parts = (partsAt (fun i => ([(0, 1), (1, 1)] : List (Nat × Nat))[i]?) parts).bind fun l => (fillA [(.s .empty), (.i .i64 0)] l).map V.agg := build_struct sh66 pl66 ze66
theorem fi66x0 : cfgB.field 66 0 = some (0, 9) := by kernel_rfl
theorem fi66x1 : cfgB.field 66 1 = some (1, 3) := by kernel_rfl
theorem dr88x11 {p : List Nat} {s : St} {Q : Ex → St → Prop} (l : List Oper) : Wq cfgB 88 p (.region 11 l.toArray true) s Q = Ops cfgB p l.toArray l s (Q .normal) := Wp_draw 11 l (show cfgB.cls 88 11 = [] from rfl)
theorem dr88x15 {p : List Nat} {s : St} {Q : Ex → St → Prop} (l : List Oper) : Wq cfgB 88 p (.region 15 l.toArray true) s Q = Ops cfgB p l.toArray l s (Q .normal) := Wp_draw 15 l (show cfgB.cls 88 15 = [] from rfl)
theorem dr90x5 {p : List Nat} {s : St} {Q : Ex → St → Prop} (l : List Oper) : Wq cfgB 90 p (.region 5 l.toArray true) s Q = Ops cfgB p l.toArray l s (Q .normal) := Wp_draw 5 l (show cfgB.cls 90 5 = [] from rfl)
end Go.Am.R1.B

/- slices.Clone of entries. -/
namespace Go.Am.R1.B
open Go.Proofs Go.Am.R1
set_option maxRecDepth 100000
set_option linter.unusedSimpArgs false
set_option linter.unusedVariables false
variable {σ : List O} {p : List Nat}
theorem clone_nils : runF cfgB 89 [.nils] σ p = some (.nils, σ) := by
  have en : ∀ x y, binA cfgB .eql 57 x y .nils .nils = some (.b true) := fun x y => by
    simp only [binA, toVal, toVal1, pureV]
    have h1 : pureRun cfgB.P (do eqGuard .eql 57 x y (.slice none 0 0) (.slice none 0 0); binOp .eql 57 (.slice none 0 0) (.slice none 0 0) : Sem Value) = some (.bool true) := by
      show pureRun cfgB.P ((eqGuard .eql 57 x y _ _).bind fun _ => (Op.equal 57 _ _).bind fun b => Sem.pure (Value.bool b)) = _
      kernel_rfl
    rw [h1]; rfl
  refine run_done rfl rfl Try.func89 rfl ?_
  simp +contextual (disch := first | omega | exact rfl | decide | exact kpF (by decide) | exact kpT (by decide) | assumption | exact Z2z | exact Z30 | exact Z32 | exact Z31 | exact Z33 | exact Z34 | (simp only [Z6x, Z6y, Z2q, Z2g, Z6d, Z6e] <;> omega) | (simp only [Z6v, Z6w, Z7i, Z7j, Z7k, Z7l, Z2i, Z6k]) | (simp only [Z35, Z36, Z2r, Z2s, Z2t, Z2u, Z2v, Z2w, Z2x, Z2y, Z2z, Z30, Z31, Z32, Z33, Z34, Z7m, Z4a, Z4b] <;> assumption)) only [Try.f89, Z00, Z01, Z02, Z03, Z04, Z05, Z06, Z07, Z08, Z09, Z0a, Z0b, Z0c, Z0d, Z0e, Z0f, Z0g, Z0h, Z0i, Z0j, Z0k, Z0l, Z0m, Z0n, Z0o, SOp, Z0q, Z0r, Z0s, Z0t, Z0u, Z0v, Z0w, Z0x, Z0y, Z0z, Z10, Z11, Z12, GOp, Z14, Z15, Z16, Z17, Z18, Z19, Z1a, Z1b, ↓Z1c, Z1d, Z1e, Z1f, Z1g, Z1h, Z1i, Z1j, Z1k, Z1l, Z1m, Z1n, Z1o, Z1p, Int.reduceAdd, Int.reduceSub, Int.reduceMul, Int.reduceNeg, Z1q, Z1r, Z1s, Z1t, Z1u, Z1v, Z1w, Z1x, Z1y, Z1z, accs, touch, touchM, okPair, Z24, Z25, Z26, Z27, Z28, Z29, Z2a, Z2b, Z2c, Z2d, Z2e, Z2f, Z2g, Z2h, Z2i, Z2j, Z2k, Z2l, Z2m, Z2n, Z2o, Z2p, Z2q, Z2r, Z2s, Z2t, Z2u, Z2v, Z2w, Z2x, Z2y, Z2z, Z30, Z31, Z32, Z33, Z34, Z35, Z36, Z37, Z38, Z39, Z3a, Z3b, Z3c, Z3d, Z3e, Z3f, Z3g, Z3h, Z3i, Z3j, Z3k, Z3l, Nat.reduceAdd, Nat.reduceLeDiff, Nat.reduceMul, Nat.reduceSub, isV, opA, Z3o, grdO, grd, Z3r, Z3s, Z3t, Z3u, Z3v, Z3w, Z3x, Z3y, Z3z, Z40, Z41, Z42, Z43, Z44, Z45, Z46, Z47, Z48, Z49, Z4a, Z4b, Z4c, Z4d, Z4e, Z4f, Z4g, Z4h, Z4i, Z4j, Z4k, Int.reduceLT, Int.reduceLE, Int.reduceToNat, Z4l, Z4m, Z4n, Z4o, Z4p, Z4q, Z4r, Z4s, Z4t, Z4u, Z4v, Z4w, Z4x, Z4y, Z4z, Z50, Z51, Z52, Z53, Z54, Z55, Z56, Z57, Z58, Z59, Z5a, Z5b, Z5c, Z5d, Z5e, Z5f, Z5g, Z5h, Z5i, Z5j, Z5k, Z5l, Z5m, Z5n, Z5o, Z5p, Z5q, Z5r, Z5s, Z5t, Z5u, builtinP, builtinA, changes, fieldAddrA, resA, tupled, Z61, Z62, Z63, Z64, Z65, Z66, Z67, Z68, Z69, Z2q, Z6a, Z6b, Z64, Z6c, Z2m, Z6d, Z6e, Z6f, Z6g, Z6h, Z6i, Z6j, Z6k, Z6l, Z6m, Z6n, Z6o, Z6p, Z6q, Z6r, Z6s, Z6t, Z6u, Z6v, Z6w, Z6x, Z6y, Z6z, ↓reduceIte, Nat.reduceEqDiff, Nat.reduceLT, Z70, Int.reduceEq, Z3x, Z6s, Z71, Z72, Z73, Z74, Z75, Z76, Z77, Z78, Z79, Z7a, Z7b, Z7c, Z7d, Z7e, Z7f, Z7g, Z7h, sh3, sz3, by3, ag3, kn3, ze3, ld3, li3, sto3, sh9, sz9, by9, ag9, kn9, ze9, ld9, li9, sto9, les9, ixs9, sh57, sz57, by57, ag57, kn57, el57, ze57, ld57, li57, sto57, ixi57, iai57, le57, lr57, ln57, sh66, sz66, by66, ag66, kn66, ze66, fk66, eq66, ne66, pl66, lda66, sta66, bd66, fi66x0, fi66x1, en, DoneQ_keep]
theorem clone_arr {cs : List V} {n : Nat} {cl : Bool} (hl : cs.length = n * 2) (hn : n ≤ 1000000) : runF cfgB 89 [.arr cs n cl] σ p = some (if n = 0 then (.arr [] 0 true, σ) else (.sl σ.length (1 :: p) 0 n 2 none, σ ++ [.cells (1 :: p) cs])) := by
  have m57 : ∀ (τ : List O) st, buildSliceA cfgB 57 0 [] τ st = some (.arr [] 0 true, τ) := fun τ st => by simp [buildSliceA, el57]
  have hs : SV 2 (.arr cs n cl) n cs := ⟨hl, .inr ⟨cl, rfl⟩⟩
  have a1 : ∀ (τ : List O) st, appendA cfgB 57 τ st (.arr [] 0 true) (.arr cs n cl) = some (if n = 0 then (.arr [] 0 true, τ) else (.sl τ.length st 0 n 2 none, τ ++ [.cells st cs])) := fun τ st => by
    by_cases h0 : n = 0
    · subst h0
      have : cs = [] := List.eq_nil_of_length_eq_zero (by omega)
      subst this
      simp [appendA, el57, elems, take?]
    · rw [if_neg h0]
      exact app_some el57 by66 hs (by omega) h0
  have en : ∀ x y, binA cfgB .eql 57 x y (.arr cs n cl) .nils = none := fun x y => by simp [binA, toVal, toVal1]
  have en2 : eqNilA cfgB .eql 57 (.arr cs n cl) .nils = some (.b false) := by simp [eqNilA, oneNil, tk, vk, cfgB, Try.underlying57]
  refine run_done rfl rfl Try.func89 rfl ?_
  simp +contextual (disch := first | omega | exact rfl | decide | exact kpF (by decide) | exact kpT (by decide) | assumption | exact Z2z | exact Z30 | exact Z32 | exact Z31 | exact Z33 | exact Z34 | (simp only [Z6x, Z6y, Z2q, Z2g, Z6d, Z6e] <;> omega) | (simp only [Z6v, Z6w, Z7i, Z7j, Z7k, Z7l, Z2i, Z6k]) | (simp only [Z35, Z36, Z2r, Z2s, Z2t, Z2u, Z2v, Z2w, Z2x, Z2y, Z2z, Z30, Z31, Z32, Z33, Z34, Z7m, Z4a, Z4b] <;> assumption)) only [Try.f89, Z00, Z01, Z02, Z03, Z04, Z05, Z06, Z07, Z08, Z09, Z0a, Z0b, Z0c, Z0d, Z0e, Z0f, Z0g, Z0h, Z0i, Z0j, Z0k, Z0l, Z0m, Z0n, Z0o, SOp, Z0q, Z0r, Z0s, Z0t, Z0u, Z0v, Z0w, Z0x, Z0y, Z0z, Z10, Z11, Z12, GOp, Z14, Z15, Z16, Z17, Z18, Z19, Z1a, Z1b, ↓Z1c, Z1d, Z1e, Z1f, Z1g, Z1h, Z1i, Z1j, Z1k, Z1l, Z1m, Z1n, Z1o, Z1p, Int.reduceAdd, Int.reduceSub, Int.reduceMul, Int.reduceNeg, Z1q, Z1r, Z1s, Z1t, Z1u, Z1v, Z1w, Z1x, Z1y, Z1z, accs, touch, touchM, okPair, Z24, Z25, Z26, Z27, Z28, Z29, Z2a, Z2b, Z2c, Z2d, Z2e, Z2f, Z2g, Z2h, Z2i, Z2j, Z2k, Z2l, Z2m, Z2n, Z2o, Z2p, Z2q, Z2r, Z2s, Z2t, Z2u, Z2v, Z2w, Z2x, Z2y, Z2z, Z30, Z31, Z32, Z33, Z34, Z35, Z36, Z37, Z38, Z39, Z3a, Z3b, Z3c, Z3d, Z3e, Z3f, Z3g, Z3h, Z3i, Z3j, Z3k, Z3l, Nat.reduceAdd, Nat.reduceLeDiff, Nat.reduceMul, Nat.reduceSub, isV, opA, Z3o, grdO, grd, Z3r, Z3s, Z3t, Z3u, Z3v, Z3w, Z3x, Z3y, Z3z, Z40, Z41, Z42, Z43, Z44, Z45, Z46, Z47, Z48, Z49, Z4a, Z4b, Z4c, Z4d, Z4e, Z4f, Z4g, Z4h, Z4i, Z4j, Z4k, Int.reduceLT, Int.reduceLE, Int.reduceToNat, Z4l, Z4m, Z4n, Z4o, Z4p, Z4q, Z4r, Z4s, Z4t, Z4u, Z4v, Z4w, Z4x, Z4y, Z4z, Z50, Z51, Z52, Z53, Z54, Z55, Z56, Z57, Z58, Z59, Z5a, Z5b, Z5c, Z5d, Z5e, Z5f, Z5g, Z5h, Z5i, Z5j, Z5k, Z5l, Z5m, Z5n, Z5o, Z5p, Z5q, Z5r, Z5s, Z5t, Z5u, builtinP, builtinA, changes, fieldAddrA, resA, tupled, Z61, Z62, Z63, Z64, Z65, Z66, Z67, Z68, Z69, Z2q, Z6a, Z6b, Z64, Z6c, Z2m, Z6d, Z6e, Z6f, Z6g, Z6h, Z6i, Z6j, Z6k, Z6l, Z6m, Z6n, Z6o, Z6p, Z6q, Z6r, Z6s, Z6t, Z6u, Z6v, Z6w, Z6x, Z6y, Z6z, ↓reduceIte, Nat.reduceEqDiff, Nat.reduceLT, Z70, Int.reduceEq, Z3x, Z6s, Z71, Z72, Z73, Z74, Z75, Z76, Z77, Z78, Z79, Z7a, Z7b, Z7c, Z7d, Z7e, Z7f, Z7g, Z7h, sh3, sz3, by3, ag3, kn3, ze3, ld3, li3, sto3, sh9, sz9, by9, ag9, kn9, ze9, ld9, li9, sto9, les9, ixs9, sh57, sz57, by57, ag57, kn57, el57, ze57, ld57, li57, sto57, ixi57, iai57, le57, lr57, ln57, sh66, sz66, by66, ag66, kn66, ze66, fk66, eq66, ne66, pl66, lda66, sta66, bd66, fi66x0, fi66x1, en, en2, a1, m57, DoneQ_keep]
theorem clone_sl {cs : List V} {n r : Nat} {st : List Nat} {cap : Option Nat} (hr : rowAt σ r st = some cs) (hl : cs.length = n * 2) (hn : n ≤ 1000000) : runF cfgB 89 [.sl r st 0 n 2 cap] σ p = some (if n = 0 then (.arr [] 0 true, σ) else (.sl σ.length (1 :: p) 0 n 2 none, σ ++ [.cells (1 :: p) cs])) := by
  have m57 : ∀ (τ : List O) st, buildSliceA cfgB 57 0 [] τ st = some (.arr [] 0 true, τ) := fun τ st => by simp [buildSliceA, el57]
  have hel : elems 2 σ (.sl r st 0 n 2 cap) = some (n, cs) := by simp only [elems, if_true, hr, Option.bind_some, A.take_all' hl, Option.map_some]
  have a1 : ∀ st', appendA cfgB 57 σ st' (.arr [] 0 true) (.sl r st 0 n 2 cap) = some (if n = 0 then (.arr [] 0 true, σ) else (.sl σ.length st' 0 n 2 none, σ ++ [.cells st' cs])) := fun st' => by
    by_cases h0 : n = 0
    · subst h0
      simp [appendA, el57, hel]
    · rw [if_neg h0]
      obtain ⟨m, rfl⟩ : ∃ m, n = m + 1 := ⟨n - 1, by omega⟩
      exact app_empty (C := cfgB) el57 by66 hel (by omega)
  have en : ∀ x y, binA cfgB .eql 57 x y (.sl r st 0 n 2 cap) .nils = none := fun x y => by simp [binA, toVal, toVal1]
  have en2 : eqNilA cfgB .eql 57 (.sl r st 0 n 2 cap) .nils = some (.b false) := by simp [eqNilA, oneNil, tk, vk, cfgB, Try.underlying57]
  refine run_done rfl rfl Try.func89 rfl ?_
  simp +contextual (disch := first | omega | exact rfl | decide | exact kpF (by decide) | exact kpT (by decide) | assumption | exact Z2z | exact Z30 | exact Z32 | exact Z31 | exact Z33 | exact Z34 | (simp only [Z6x, Z6y, Z2q, Z2g, Z6d, Z6e] <;> omega) | (simp only [Z6v, Z6w, Z7i, Z7j, Z7k, Z7l, Z2i, Z6k]) | (simp only [Z35, Z36, Z2r, Z2s, Z2t, Z2u, Z2v, Z2w, Z2x, Z2y, Z2z, Z30, Z31, Z32, Z33, Z34, Z7m, Z4a, Z4b] <;> assumption)) only [Try.f89, Z00, Z01, Z02, Z03, Z04, Z05, Z06, Z07, Z08, Z09, Z0a, Z0b, Z0c, Z0d, Z0e, Z0f, Z0g, Z0h, Z0i, Z0j, Z0k, Z0l, Z0m, Z0n, Z0o, SOp, Z0q, Z0r, Z0s, Z0t, Z0u, Z0v, Z0w, Z0x, Z0y, Z0z, Z10, Z11, Z12, GOp, Z14, Z15, Z16, Z17, Z18, Z19, Z1a, Z1b, ↓Z1c, Z1d, Z1e, Z1f, Z1g, Z1h, Z1i, Z1j, Z1k, Z1l, Z1m, Z1n, Z1o, Z1p, Int.reduceAdd, Int.reduceSub, Int.reduceMul, Int.reduceNeg, Z1q, Z1r, Z1s, Z1t, Z1u, Z1v, Z1w, Z1x, Z1y, Z1z, accs, touch, touchM, okPair, Z24, Z25, Z26, Z27, Z28, Z29, Z2a, Z2b, Z2c, Z2d, Z2e, Z2f, Z2g, Z2h, Z2i, Z2j, Z2k, Z2l, Z2m, Z2n, Z2o, Z2p, Z2q, Z2r, Z2s, Z2t, Z2u, Z2v, Z2w, Z2x, Z2y, Z2z, Z30, Z31, Z32, Z33, Z34, Z35, Z36, Z37, Z38, Z39, Z3a, Z3b, Z3c, Z3d, Z3e, Z3f, Z3g, Z3h, Z3i, Z3j, Z3k, Z3l, Nat.reduceAdd, Nat.reduceLeDiff, Nat.reduceMul, Nat.reduceSub, isV, opA, Z3o, grdO, grd, Z3r, Z3s, Z3t, Z3u, Z3v, Z3w, Z3x, Z3y, Z3z, Z40, Z41, Z42, Z43, Z44, Z45, Z46, Z47, Z48, Z49, Z4a, Z4b, Z4c, Z4d, Z4e, Z4f, Z4g, Z4h, Z4i, Z4j, Z4k, Int.reduceLT, Int.reduceLE, Int.reduceToNat, Z4l, Z4m, Z4n, Z4o, Z4p, Z4q, Z4r, Z4s, Z4t, Z4u, Z4v, Z4w, Z4x, Z4y, Z4z, Z50, Z51, Z52, Z53, Z54, Z55, Z56, Z57, Z58, Z59, Z5a, Z5b, Z5c, Z5d, Z5e, Z5f, Z5g, Z5h, Z5i, Z5j, Z5k, Z5l, Z5m, Z5n, Z5o, Z5p, Z5q, Z5r, Z5s, Z5t, Z5u, builtinP, builtinA, changes, fieldAddrA, resA, tupled, Z61, Z62, Z63, Z64, Z65, Z66, Z67, Z68, Z69, Z2q, Z6a, Z6b, Z64, Z6c, Z2m, Z6d, Z6e, Z6f, Z6g, Z6h, Z6i, Z6j, Z6k, Z6l, Z6m, Z6n, Z6o, Z6p, Z6q, Z6r, Z6s, Z6t, Z6u, Z6v, Z6w, Z6x, Z6y, Z6z, ↓reduceIte, Nat.reduceEqDiff, Nat.reduceLT, Z70, Int.reduceEq, Z3x, Z6s, Z71, Z72, Z73, Z74, Z75, Z76, Z77, Z78, Z79, Z7a, Z7b, Z7c, Z7d, Z7e, Z7f, Z7g, Z7h, sh3, sz3, by3, ag3, kn3, ze3, ld3, li3, sto3, sh9, sz9, by9, ag9, kn9, ze9, ld9, li9, sto9, les9, ixs9, sh57, sz57, by57, ag57, kn57, el57, ze57, ld57, li57, sto57, ixi57, iai57, le57, lr57, ln57, sh66, sz66, by66, ag66, kn66, ze66, fk66, eq66, ne66, pl66, lda66, sta66, bd66, fi66x0, fi66x1, en, en2, a1, m57, DoneQ_keep]
end Go.Am.R1.B

/- entry.With where all is well: in each order of its region. -/
namespace Go.Am.R1.B
open Go.Proofs Go.Am.R1
set_option maxRecDepth 100000
set_option linter.unusedSimpArgs false
set_option linter.unusedVariables false
def b2n (b : Bool) : Nat := if b then 1 else 0
/-- What holds within the region, by what was done. -/
structure Inv (s0 : St) (x : V) (cs vs : List V) (n i : Nat) (D : Nat → Bool) (s : St) : Prop where
  nt : s.nt = 41
  L : ∃ L, s.σ = s0.σ ++ L
  c : s.c ≤ s0.c + (b2n (D 1) + b2n (D 4) + b2n (D 5))
  keep : ∀ d, d ∉ [35, 36, 37, 38, 39, 40, 4, 5] → s.t.get d = s0.t.get d
  t35 : D 0 = true → s.t.get 35 = some x
  t37 : D 2 = true → s.t.get 37 = some (.i .i64 (i : Nat))
  t38 : D 3 = true → s.t.get 38 = some (.agg vs)
  t39 : D 4 = true → D 5 = false → ∃ r2 st2, s.t.get 39 = some (.sl r2 st2 0 1 2 (some 1)) ∧ rowAt s.σ r2 st2 = some vs ∧ s0.σ.length ≤ r2 ∧ r2 < s.σ.length
  t36 : D 1 = true → D 5 = false → (n = 0 ∧ (s.t.get 36 = some .nils ∨ s.t.get 36 = some (.arr [] 0 true))) ∨ (0 < n ∧ ∃ r1 st1, s.t.get 36 = some (.sl r1 st1 0 n 2 none) ∧ rowAt s.σ r1 st1 = some cs ∧ s0.σ.length ≤ r1 ∧ r1 < s.σ.length ∧
    (D 4 = true → ∀ r2 st2, s.t.get 39 = some (.sl r2 st2 0 1 2 (some 1)) → r1 ≠ r2))
  t40 : D 5 = true → ∃ r3 st3, s.t.get 40 = some (.sl r3 st3 0 (n + 1) 2 none) ∧ rowAt s.σ r3 st3 = some (insV i cs vs) ∧ s0.σ.length ≤ r3
  t4 : D 6 = true → s.t.get 4 = s.t.get 40
  t5 : D 7 = true → s.t.get 5 = some (.i .i64 0)
theorem inv_start (s0 : St) (x : V) (cs vs : List V) (n i : Nat) (hnt : s0.nt = 41) : Inv s0 x cs vs n i (fun _ => false) s0 :=
  ⟨hnt, ⟨[], by simp⟩, by simp [b2n], (fun _ _ => rfl), (fun h => by cases h), (fun h => by cases h), (fun h => by cases h), (fun h => by cases h), (fun h => by cases h), (fun h => by cases h), (fun h => by cases h), (fun h => by cases h)⟩
variable {s0 s : St} {x : V} {cs vs : List V} {n i : Nat} {D : Nat → Bool} {p : List Nat}
/-- A step that sets one of the first temporaries. -/
theorem inv_put (h : Inv s0 x cs vs n i D s) {d j : Nat} {v : V} (hdj : (j = 0 ∧ d = 35 ∧ v = x) ∨ (j = 2 ∧ d = 37 ∧ v = .i .i64 (i : Nat)) ∨ (j = 3 ∧ d = 38 ∧ v = .agg vs) ∨ (j = 6 ∧ d = 4 ∧ some v = s.t.get 40) ∨ (j = 7 ∧ d = 5 ∧ v = .i .i64 0)) :
    Inv s0 x cs vs n i (fun k => D k || k == j) ⟨s.t.set d v, s.nt, s.σ, s.c⟩ := by
  obtain ⟨h1, h2, h3, h4, h5, h6, h7, h8, h9, h10, h11, h12⟩ := h
  rcases hdj with ⟨rfl, rfl, rfl⟩ | ⟨rfl, rfl, rfl⟩ | ⟨rfl, rfl, rfl⟩ | ⟨rfl, rfl, hv⟩ | ⟨rfl, rfl, rfl⟩ <;>
  · refine ⟨h1, h2, by simpa using h3, fun d hd => ?_, fun hD => ?_, fun hD => ?_, fun hD => ?_, fun hD hD5 => ?_, fun hD hD5 => ?_, fun hD => ?_, fun hD => ?_, fun hD => ?_⟩
    · rw [T.get_set, if_neg (by rintro rfl; simp at hd)]; exact h4 d hd
    all_goals simp only [T.get_set, Nat.reduceEqDiff, if_true, if_false, Nat.reduceBEq, Bool.or_false, Bool.or_true, beq_self_eq_true] at hD ⊢
    all_goals first | exact h5 hD | exact h6 hD | exact h7 hD | exact h8 hD (by simpa using hD5) | exact h10 hD | exact h11 hD | exact h12 hD | rfl | exact hv | (simpa using h9 hD (by simpa using hD5))
theorem inv_39 (h : Inv s0 x cs vs n i D s) (hD4 : D 4 = false) (hvl : vs.length = 2) :
    Inv s0 x cs vs n i (fun k => D k || k == 4) ⟨s.t.set 39 (.sl s.σ.length (s.c :: p) 0 1 2 (some 1)), s.nt, s.σ ++ [.cells (s.c :: p) vs], s.c + 1⟩ := by
  obtain ⟨h1, ⟨L, hL⟩, h3, h4, h5, h6, h7, h8, h9, h10, h11, h12⟩ := h
  refine ⟨h1, ⟨L ++ [.cells (s.c :: p) vs], by simp [hL]⟩, ?_, fun d hd => ?_, fun hD => ?_, fun hD => ?_, fun hD => ?_, fun hD hD5 => ?_, fun hD hD5 => ?_, fun hD => ?_, fun hD => ?_, fun hD => ?_⟩
  · simp only [hD4] at h3 ⊢
    simp [b2n] at h3 ⊢
    omega
  · rw [T.get_set, if_neg (by rintro rfl; simp at hd)]; exact h4 d hd
  · simp only [T.get_set, Nat.reduceEqDiff, if_false] at hD ⊢; exact h5 (by simpa using hD)
  · simp only [T.get_set, Nat.reduceEqDiff, if_false] at hD ⊢; exact h6 (by simpa using hD)
  · simp only [T.get_set, Nat.reduceEqDiff, if_false] at hD ⊢; exact h7 (by simpa using hD)
  · refine ⟨s.σ.length, s.c :: p, by simp [T.get_set], by rw [rowAt_app0, rowAt_cons0], by rw [hL]; simp, by simp⟩
  · rcases h9 (by simpa using hD) (by simpa using hD5) with ⟨e1, e2⟩ | ⟨e1, r1, st1, e2, e3, e4, e5, e6⟩
    · exact .inl ⟨e1, by simpa [T.get_set] using e2⟩
    · refine .inr ⟨e1, r1, st1, by simpa [T.get_set] using e2, rowAt_old e3, e4, by simp; omega, fun _ r2 st2 he => ?_⟩
      simp only [T.get_set, if_true, Option.some.injEq, V.sl.injEq] at he
      omega
  · obtain ⟨r3, st3, e1, e2, e3⟩ := h10 (by simpa using hD)
    exact ⟨r3, st3, by simpa [T.get_set] using e1, rowAt_old e2, e3⟩
  · simp only [T.get_set, Nat.reduceEqDiff, if_false]; exact h11 (by simpa using hD)
  · simp only [T.get_set, Nat.reduceEqDiff, if_false]; exact h12 (by simpa using hD)
theorem inv_36 (h : Inv s0 x cs vs n i D s) (hD1 : D 1 = false) (hD5 : D 5 = false) {v : V} {σ' : List O} (hv : (n = 0 ∧ (v = .nils ∨ v = .arr [] 0 true) ∧ σ' = s.σ) ∨ (0 < n ∧ ∃ st1, v = .sl s.σ.length st1 0 n 2 none ∧ σ' = s.σ ++ [.cells st1 cs])) :
    Inv s0 x cs vs n i (fun k => D k || k == 1) ⟨s.t.set 36 v, s.nt, σ', s.c + 1⟩ := by
  obtain ⟨h1, ⟨L, hL⟩, h3, h4, h5, h6, h7, h8, h9, h10, h11, h12⟩ := h
  have hσ : ∃ K, σ' = s.σ ++ K := by
    rcases hv with ⟨_, _, rfl⟩ | ⟨_, st1, _, rfl⟩
    · exact ⟨[], by simp⟩
    · exact ⟨_, rfl⟩
  obtain ⟨K, rfl⟩ := hσ
  refine ⟨h1, ⟨L ++ K, by simp [hL]⟩, ?_, fun d hd => ?_, fun hD => ?_, fun hD => ?_, fun hD => ?_, fun hD hD5 => ?_, fun hD hD5 => ?_, fun hD => ?_, fun hD => ?_, fun hD => ?_⟩
  · simp only [hD1] at h3 ⊢
    simp [b2n] at h3 ⊢
    omega
  · rw [T.get_set, if_neg (by rintro rfl; simp at hd)]; exact h4 d hd
  · simp only [T.get_set, Nat.reduceEqDiff, if_false] at hD ⊢; exact h5 (by simpa using hD)
  · simp only [T.get_set, Nat.reduceEqDiff, if_false] at hD ⊢; exact h6 (by simpa using hD)
  · simp only [T.get_set, Nat.reduceEqDiff, if_false] at hD ⊢; exact h7 (by simpa using hD)
  · obtain ⟨r2, st2, e1, e2, e3, e4⟩ := h8 (by simpa using hD) (by simpa using hD5)
    exact ⟨r2, st2, by simpa [T.get_set] using e1, rowAt_old e2, e3, by simp; omega⟩
  · rcases hv with ⟨e1, e2, _⟩ | ⟨e1, st1, e2, e3⟩
    · exact .inl ⟨e1, by simpa [T.get_set] using e2⟩
    · have hK := List.append_cancel_left e3
      subst hK
      refine .inr ⟨e1, s.σ.length, st1, by simp [T.get_set, e2], by rw [rowAt_app0, rowAt_cons0], by rw [hL]; simp, by simp, fun hD4 r2 st2 he => ?_⟩
      simp only [T.get_set, Nat.reduceEqDiff, if_false] at he
      obtain ⟨r2', st2', q1, _, _, q4⟩ := h8 (by simpa using hD4) (by simpa using hD5)
      rw [he] at q1
      simp only [Option.some.injEq, V.sl.injEq] at q1
      omega
  · obtain ⟨r3, st3, e1, e2, e3⟩ := h10 (by simpa using hD)
    exact ⟨r3, st3, by simpa [T.get_set] using e1, rowAt_old e2, e3⟩
  · simp only [T.get_set, Nat.reduceEqDiff, if_false]; exact h11 (by simpa using hD)
  · simp only [T.get_set, Nat.reduceEqDiff, if_false]; exact h12 (by simpa using hD)
theorem inv_40 (h : Inv s0 x cs vs n i D s) (hD5 : D 5 = false) (hD6 : D 6 = false) {r3 : Nat} {st3 : List Nat} {σ' : List O} (hσ : ∃ L, σ' = s0.σ ++ L) (hr : rowAt σ' r3 st3 = some (insV i cs vs)) (hl : s0.σ.length ≤ r3) :
    Inv s0 x cs vs n i (fun k => D k || k == 5) ⟨s.t.set 40 (.sl r3 st3 0 (n + 1) 2 none), s.nt, σ', s.c + 1⟩ := by
  obtain ⟨h1, _, h3, h4, h5, h6, h7, h8, h9, h10, h11, h12⟩ := h
  refine ⟨h1, hσ, ?_, fun d hd => ?_, fun hD => ?_, fun hD => ?_, fun hD => ?_, fun hD hD5 => ?_, fun hD hD5 => ?_, fun hD => ?_, fun hD => ?_, fun hD => ?_⟩
  · simp only [hD5] at h3 ⊢
    simp [b2n] at h3 ⊢
    omega
  · rw [T.get_set, if_neg (by rintro rfl; simp at hd)]; exact h4 d hd
  · simp only [T.get_set, Nat.reduceEqDiff, if_false] at hD ⊢; exact h5 (by simpa using hD)
  · simp only [T.get_set, Nat.reduceEqDiff, if_false] at hD ⊢; exact h6 (by simpa using hD)
  · simp only [T.get_set, Nat.reduceEqDiff, if_false] at hD ⊢; exact h7 (by simpa using hD)
  · simp at hD5
  · simp at hD5
  · exact ⟨r3, st3, by simp [T.get_set], hr, hl⟩
  · simp [hD6] at hD
  · simp only [T.get_set, Nat.reduceEqDiff, if_false]; exact h12 (by simpa using hD)
end Go.Am.R1.B

/- The region of entry.With is what it is told to be. -/
namespace Go.Am.R1.B
open Go.Proofs Go.Am.R1
set_option maxRecDepth 100000
set_option linter.unusedSimpArgs false
set_option linter.unusedVariables false
theorem step_of {C : Cfg} {call : CallF} {p : List Nat} {ops : Array Oper} {d : Nat} {op : Op} {ty : TypeId} {pos : String} {af : Array Edge} {s : St} {v : V} {σ' : List O} {c' : Nat} (hv : isV op = false) (hn : d < s.nt) (h : opA C p (s.ev C) s.σ s.c op = some (v, σ', c')) :
    stepA C call p ops ⟨some d, op, ty, pos, af, none⟩ s = some ⟨s.t.set d v, s.nt, σ', c'⟩ := by
  simp only [stepA, guardA, Option.bind_some, if_true]
  split
  · simp [isV] at hv
  · rw [h]; simp [St.put, hn]
theorem call_of {C : Cfg} {call : CallF} {p : List Nat} {ops : Array Oper} {d f : Nat} {args : Array Operand} {ts : Array TypeId} {ty : TypeId} {pos : String} {af : Array Edge} {s : St} {v : V} {σ' : List O} (hn : d < s.nt) (h : call f (args.toList.map (s.ev C)) s.σ (s.c :: p) = some (v, σ')) :
    stepA C call p ops ⟨some d, .call { callee := .value (.func f), args := args, argTypes := ts }, ty, pos, af, none⟩ s = some ⟨s.t.set d v, s.nt, σ', s.c + 1⟩ := by
  simp [stepA, guardA, callA, St.ev, h, St.put, hn]
theorem row_eq' {σ : List O} {r : Nat} {st : List Nat} {cs : List V} (h : rowAt σ r st = some cs) : σ[r]? = some (.cells st cs) := A.row_eq h
theorem froz_cases {σ : List O} {x : V} {n : Nat} {cs : List V} (h : froz σ x = some (n, cs)) : (x = .nils ∧ n = 0 ∧ cs = []) ∨ (∃ cl, x = .arr cs n cl) ∨ ∃ r st cap, x = .sl r st 0 n 2 cap ∧ rowAt σ r st = some cs := by
  cases x <;> simp only [froz, reduceCtorEq, Option.some.injEq, Prod.mk.injEq] at h
  · exact .inl ⟨rfl, h.1.symm, h.2.symm⟩
  · split at h
    · rename_i hc
      obtain ⟨rfl, rfl⟩ := hc
      simp only [Option.bind_eq_some_iff] at h
      obtain ⟨row, h1, h2⟩ := h
      split at h2
      · simp only [Option.some.injEq, Prod.mk.injEq] at h2
        obtain ⟨rfl, rfl⟩ := h2
        exact .inr (.inr ⟨_, _, _, rfl, h1⟩)
      · cases h2
    · cases h
  · obtain ⟨rfl, rfl⟩ := h; exact .inr (.inl ⟨_, rfl⟩)
theorem hook_ok : HookOk cfg := by
  intro g id h hh fn c0 ops hf hb hreg B0 p s0 s' a M w hs hrun
  have hk : hkT g id = some h := hh
  unfold hkT at hk
  split at hk
  · rename_i e
    obtain ⟨rfl, rfl⟩ := e
    cases hk
    have hf' : Try.prog.funcs[42]? = some fn := hf
    rw [Try.func42] at hf'
    cases hf'
    simp only [Try.f42, Option.some.injEq] at hb
    subst hb
    simp [RegIn] at hreg
    subst hreg
    unfold hWith at hrun
    split at hrun
    · rename_i x i r st hx0 hx6 hx3
      simp only [Option.bind_eq_some_iff] at hrun
      obtain ⟨⟨n, cs⟩, hfr, vs, hrow, hrun⟩ := hrun
      split at hrun
      · rename_i hc
        obtain ⟨hnt, hcl, hvl, hi0, hin, hnb, hone⟩ := hc
        dsimp only at hcl hin hnb hrun
        obtain ⟨i, rfl⟩ : ∃ j : Nat, i = j := ⟨i.toNat, by omega⟩
        simp only [Int.toNat_natCast, Option.some.injEq] at hrun
        have hin' : i ≤ n := by omega
        have hsB : SR cfgB B0 p M s0 a w := ⟨hs.mem, hs.fr, hs.new, ⟨hs.gl.glob⟩⟩
        refine region_inv (C := cfgB) mixed callB (fun j o e hj he hbd => ?_) (fun D s => Inv s0 x cs vs n i D s ∧ (D 6 = true → D 5 = true) ∧ (D 5 = true → D 1 = true ∧ D 2 = true ∧ D 4 = true)) hsB ⟨inv_start s0 x cs vs n i hnt, by simp, by simp⟩ (fun D s j o hI hj hDj hed => ?_) 12 (fun D s M' a' w' hI hall hs' hn => ?_)
        · have hlt := (Array.getElem?_eq_some_iff.1 hj).1
          simp at hlt
          have : j = 0 ∨ j = 1 ∨ j = 2 ∨ j = 3 ∨ j = 4 ∨ j = 5 ∨ j = 6 ∨ j = 7 := by omega
          rcases this with rfl | rfl | rfl | rfl | rfl | rfl | rfl | rfl <;> (simp at hj; subst hj; simp at he) <;> (try rcases he with rfl | rfl | rfl | rfl | rfl | rfl | rfl | rfl | rfl) <;> simp_all
        · obtain ⟨hI, hc6, hc5⟩ := hI
          have hlt := (Array.getElem?_eq_some_iff.1 hj).1
          simp at hlt
          have : j = 0 ∨ j = 1 ∨ j = 2 ∨ j = 3 ∨ j = 4 ∨ j = 5 ∨ j = 6 ∨ j = 7 := by omega
          rcases this with rfl | rfl | rfl | rfl | rfl | rfl | rfl | rfl <;> (simp at hj; subst hj)
          · exact ⟨_, step_of rfl (by rw [hI.nt]; decide) (v := x) (by simp [opA, St.ev, hI.keep 0 (by decide), hx0]), inv_put hI (.inl ⟨rfl, rfl, rfl⟩), by simpa using hc6, by simpa using hc5⟩
          · have h0 : D 0 = true := hed ⟨0, .data⟩ (by simp) rfl
            have h5 : D 5 = false := by
              cases q : D 5 with
              | false => rfl
              | true => rw [(hc5 q).1] at hDj; cases hDj
            have hx : (#[Operand.tmp 35]).toList.map (s.ev cfgB) = [x] := by simp [St.ev, hI.t35 h0]
            have k1 : (fun k => D k || k == 1) 6 = true → (fun k => D k || k == 1) 5 = true := by simpa using hc6
            have k2 : (fun k => D k || k == 1) 5 = true → (fun k => D k || k == 1) 1 = true ∧ (fun k => D k || k == 1) 2 = true ∧ (fun k => D k || k == 1) 4 = true := fun h => by simp [h5] at h
            rcases froz_cases hfr with ⟨rfl, rfl, rfl⟩ | hcase
            · exact ⟨_, call_of (by rw [hI.nt]; decide) (by rw [hx]; exact clone_nils), inv_36 hI hDj h5 (.inl ⟨rfl, .inl rfl, rfl⟩), k1, k2⟩
            · have hcn : runF cfgB 89 [x] s.σ (s.c :: p) = some (if n = 0 then (.arr [] 0 true, s.σ) else (.sl s.σ.length (1 :: s.c :: p) 0 n 2 none, s.σ ++ [.cells (1 :: s.c :: p) cs])) := by
                rcases hcase with ⟨cl, rfl⟩ | ⟨r', st', cap, rfl, hr'⟩
                · exact clone_arr hcl hnb
                · obtain ⟨L, hL⟩ := hI.L
                  exact clone_sl (by rw [hL]; exact rowAt_old hr') hcl hnb
              by_cases h0n : n = 0
              · rw [if_pos h0n] at hcn
                exact ⟨_, call_of (by rw [hI.nt]; decide) (by rw [hx]; exact hcn), inv_36 hI hDj h5 (.inl ⟨h0n, .inr rfl, rfl⟩), k1, k2⟩
              · rw [if_neg h0n] at hcn
                exact ⟨_, call_of (by rw [hI.nt]; decide) (by rw [hx]; exact hcn), inv_36 hI hDj h5 (.inr ⟨by omega, _, rfl, rfl⟩), k1, k2⟩
          · exact ⟨_, step_of rfl (by rw [hI.nt]; decide) (v := .i .i64 (i : Nat)) (by simp [opA, St.ev, hI.keep 6 (by decide), hx6]), inv_put hI (.inr (.inl ⟨rfl, rfl, rfl⟩)), by simpa using hc6, fun h => by have := hc5 (by simpa using h); simp [this]⟩
          · obtain ⟨L, hL⟩ := hI.L
            have hr : rowAt s.σ r st = some vs := by rw [hL]; exact rowAt_old hrow
            have ht : take? (vs.drop 0) 0 2 = some vs := by rw [List.drop_zero]; exact A.take_all' hvl
            have hag : cfgB.isAgg 66 = some true := ag66
            exact ⟨_, step_of rfl (by rw [hI.nt]; decide) (v := .agg vs) (by simp only [opA, St.ev, hI.keep 3 (by decide), hx3, Option.getD_some, loadA, cellsAt, hr, Option.map_some, Option.bind_some, hag, if_true, sz66, ht]), inv_put hI (.inr (.inr (.inl ⟨rfl, rfl, rfl⟩))), by simpa using hc6, fun h => by have := hc5 (by simpa using h); simp [this]⟩
          · have h3 : D 3 = true := hed ⟨3, .data⟩ (by simp) rfl
            have hb : buildSliceA cfgB 57 1 [(0, .agg vs)] s.σ (s.c :: p) = some (.sl s.σ.length (s.c :: p) 0 1 2 (some 1), s.σ ++ [.cells (s.c :: p) vs]) := by
              have hf : fillA [V.s .empty, V.i .i64 0] [(0, 2, .agg vs)] = some vs := by
                have hs' : splice [V.s .empty, V.i .i64 0] 0 vs = vs := by
                  unfold splice
                  rw [List.take_zero, List.nil_append, List.drop_of_length_le (by simp [hvl]), List.append_nil]
                rw [fill_agg hvl (by simp) hone, hs']; rfl
              simp [buildSliceA, el57, partsAt, V.cells, hf]
            exact ⟨_, step_of rfl (by rw [hI.nt]; decide) (by simp only [opA, St.ev, hI.t38 h3, List.map_cons, List.map_nil, Option.getD_some, hb, Option.map_some]; rfl), inv_39 hI hDj hvl, by simpa using hc6, fun h => by have := hc5 (by simpa using h); simp [this]⟩
          · have h1 : D 1 = true := hed ⟨1, .data⟩ (by simp) rfl
            have h2 : D 2 = true := hed ⟨2, .data⟩ (by simp) rfl
            have h4 : D 4 = true := hed ⟨4, .data⟩ (by simp) rfl
            have h6 : D 6 = false := by
              cases q : D 6 with
              | false => rfl
              | true => rw [hc6 q] at hDj; cases hDj
            have k1 : (fun k => D k || k == 5) 6 = true → (fun k => D k || k == 5) 5 = true := by simp
            have k2 : (fun k => D k || k == 5) 5 = true → (fun k => D k || k == 5) 1 = true ∧ (fun k => D k || k == 5) 2 = true ∧ (fun k => D k || k == 5) 4 = true := fun _ => by simp [h1, h2, h4]
            obtain ⟨L, hL⟩ := hI.L
            obtain ⟨r2, st2, e1, e2, e3, e4⟩ := hI.t39 h4 hDj
            have hpm : ∀ args, pIns args s.σ (s.c :: p) = runF cfgB 88 args s.σ (s.c :: p) ∨ pIns args s.σ (s.c :: p) = none := fun args => by
              cases q : pIns args s.σ (s.c :: p) with
              | none => exact .inr rfl
              | some y => exact .inl (run_primM (C := cfgB) rfl (q := pIns) rfl q).symm
            rcases hI.t36 h1 hDj with ⟨hn0, e5⟩ | ⟨hn0, r1, st1, e5, e6, e7, e8, e9⟩
            · have hi0 : i = 0 := by omega
              have hcs : cs = [] := List.eq_nil_of_length_eq_zero (by omega)
              subst hn0; subst hi0; subst hcs
              have hres : insV 0 [] vs = vs := by simp [insV]
              rcases e5 with e5 | e5
              · have hx : (#[Operand.tmp 36, Operand.tmp 37, Operand.tmp 39]).toList.map (s.ev cfgB) = [.nils, .i .i64 (0 : Nat), .sl r2 st2 0 1 2 (some 1)] := by simp [St.ev, e5, e1, hI.t37 h2]
                have hr : runF cfgB 88 [.nils, .i .i64 (0 : Nat), .sl r2 st2 0 1 2 (some 1)] s.σ (s.c :: p) = some (.sl s.σ.length (0 :: s.c :: p) 0 1 2 none, s.σ ++ [.cells (0 :: s.c :: p) vs]) :=
                  run_primM (C := cfgB) rfl (q := pIns) rfl (by simp [pIns, e2, hvl])
                exact ⟨_, call_of (by rw [hI.nt]; decide) (by rw [hx]; exact hr), inv_40 hI hDj h6 ⟨L ++ [.cells (0 :: s.c :: p) vs], by simp [hL]⟩ (by rw [rowAt_app0, rowAt_cons0, hres]) (by rw [hL]; simp), k1, k2⟩
              · have hx : (#[Operand.tmp 36, Operand.tmp 37, Operand.tmp 39]).toList.map (s.ev cfgB) = [.arr [] 0 true, .i .i64 (0 : Nat), .sl r2 st2 0 1 2 (some 1)] := by simp [St.ev, e5, e1, hI.t37 h2]
                have hr : runF cfgB 88 [.arr [] 0 true, .i .i64 (0 : Nat), .sl r2 st2 0 1 2 (some 1)] s.σ (s.c :: p) = some (.sl s.σ.length (0 :: s.c :: p) 0 1 2 none, s.σ ++ [.cells (0 :: s.c :: p) vs]) :=
                  run_primM (C := cfgB) rfl (q := pIns) rfl (by simp [pIns, e2, hvl])
                exact ⟨_, call_of (by rw [hI.nt]; decide) (by rw [hx]; exact hr), inv_40 hI hDj h6 ⟨L ++ [.cells (0 :: s.c :: p) vs], by simp [hL]⟩ (by rw [rowAt_app0, rowAt_cons0, hres]) (by rw [hL]; simp), k1, k2⟩
            · have hne := e9 h4 r2 st2 e1
              have hx : (#[Operand.tmp 36, Operand.tmp 37, Operand.tmp 39]).toList.map (s.ev cfgB) = [.sl r1 st1 0 n 2 none, .i .i64 (i : Nat), .sl r2 st2 0 1 2 (some 1)] := by simp [St.ev, e5, e1, hI.t37 h2]
              have hr : runF cfgB 88 [.sl r1 st1 0 n 2 none, .i .i64 (i : Nat), .sl r2 st2 0 1 2 (some 1)] s.σ (s.c :: p) = some (.sl r1 (1 :: s.c :: p) 0 (n + 1) 2 none, s.σ.set r1 (.cells (1 :: s.c :: p) (insV i cs vs))) :=
                run_primM (C := cfgB) rfl (q := pIns) rfl (by
                  simp only [pIns, e6, e2, Option.bind_some]
                  rw [if_pos ⟨trivial, trivial, trivial, trivial, trivial, trivial, hcl, hvl, hne, by omega, by omega, hn0, hnb⟩, Int.toNat_natCast])
              exact ⟨_, call_of (by rw [hI.nt]; decide) (by rw [hx]; exact hr), inv_40 hI hDj h6 ⟨L.set (r1 - s0.σ.length) (.cells (1 :: s.c :: p) (insV i cs vs)), by rw [hL, List.set_append_right _ _ e7]⟩ (A.row_set_self e6) e7, k1, k2⟩
          · have h5 : D 5 = true := hed ⟨5, .data⟩ (by simp) rfl
            obtain ⟨r3, st3, e1, e2, e3⟩ := hI.t40 h5
            exact ⟨_, step_of rfl (by rw [hI.nt]; decide) (v := .sl r3 st3 0 (n + 1) 2 none) (by simp [opA, St.ev, e1]), inv_put hI (.inr (.inr (.inr (.inl ⟨rfl, rfl, e1.symm⟩)))), by simp [h5], fun h => by have := hc5 (by simpa using h); simp [this]⟩
          · exact ⟨_, step_of rfl (by rw [hI.nt]; decide) (v := .i .i64 0) (by simp [opA, St.ev, ofVal, ofVal1]), inv_put hI (.inr (.inr (.inr (.inr ⟨rfl, rfl, rfl⟩)))), by simpa using hc6, fun h => by have := hc5 (by simpa using h); simp [this]⟩
        · obtain ⟨hI, hc6, hc5⟩ := hI
          have hD : ∀ k, k < 8 → D k = true := fun k hk => hall k (by simpa using hk)
          obtain ⟨r3, st3, e1, e2, e3⟩ := hI.t40 (hD 5 (by omega))
          obtain ⟨L, hL⟩ := hI.L
          have e4 : s.t.get 4 = some (.sl r3 st3 0 (n + 1) 2 none) := by rw [hI.t4 (hD 6 (by omega)), e1]
          have hc := hI.c
          simp only [hD 1 (by omega), hD 4 (by omega), hD 5 (by omega), b2n, if_true] at hc
          subst hrun
          have ht : ∀ d, (hT s0.t (.sl s0.σ.length ((s0.c + 3) :: p) 0 (n + 1) 2 none)).get d = s.t.get d ∨ (hT s0.t (.sl s0.σ.length ((s0.c + 3) :: p) 0 (n + 1) 2 none)).get d = some .bad ∨ ((hT s0.t (.sl s0.σ.length ((s0.c + 3) :: p) 0 (n + 1) 2 none)).get d = some (.sl s0.σ.length ((s0.c + 3) :: p) 0 (n + 1) 2 none) ∧ s.t.get d = some (.sl r3 st3 0 (n + 1) 2 none)) := by
            intro d
            simp only [hT, T.get_set]
            by_cases d5 : d = 5
            · subst d5; left; simp [hI.t5 (hD 7 (by omega))]
            · by_cases d4 : d = 4
              · subst d4; right; right; exact ⟨by simp, e4⟩
              · by_cases d40 : d = 40 ∨ d = 39 ∨ d = 38 ∨ d = 37 ∨ d = 36 ∨ d = 35
                · right; left
                  rcases d40 with rfl | rfl | rfl | rfl | rfl | rfl <;> simp
                · left
                  rw [hI.keep d (by simp; omega)]
                  simp only [not_or] at d40
                  obtain ⟨q1, q2, q3, q4, q5, q6⟩ := d40
                  simp [d5, d4, q1, q2, q3, q4, q5, q6]
          obtain ⟨M2, g1, g2⟩ := hs'.gather (s' := ⟨hT s0.t (.sl s0.σ.length ((s0.c + 3) :: p) 0 (n + 1) 2 none), s0.nt, s0.σ ++ [.cells ((s0.c + 3) :: p) (insV i cs vs)], s0.c + 4⟩) (c1 := s0.c + 3) hn hL e3 (row_eq' e2) e4 (by omega) (by rw [hI.nt]; exact hnt) rfl rfl ht
          exact ⟨rfl, M2, ⟨g1.mem, g1.fr, g1.new, ⟨g1.gl.glob⟩⟩, g2⟩
      · cases hrun
    · cases hrun
  · cases hk
end Go.Am.R1.B
namespace Go.Am.R1
theorem prims : PrimOk cfg := ⟨primOk_of (primAt cfg rfl), A.pm_at cfg rfl rfl, B.hook_ok⟩
end Go.Am.R1
