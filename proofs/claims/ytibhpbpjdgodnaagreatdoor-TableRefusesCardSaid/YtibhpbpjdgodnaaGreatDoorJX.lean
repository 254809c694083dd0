/- Parts of one machine and of the walks over it, joined: K69c K71 K72 K75 K76 M0 M4 M5 M6 M7 M17 M18 M27 M28 M29. -/
import Derived.Test.YtibhpbpjdgodnaaGreatDoorJF
import Derived.Test.YtibhpbpjdgodnaaGreatDoorJY
import Derived.Test.YtibhpbpjdgodnaaGreatDoorJA
import Derived.Test.YtibhpbpjdgodnaaGreatDoorAmMore
import Derived.Test.YtibhpbpjdgodnaaGreatDoorJH
import Derived.Test.YtibhpbpjdgodnaaGreatDoorAmRow
import Derived.Test.YtibhpbpjdgodnaaGreatDoorAmArgs
import Derived.Test.YtibhpbpjdgodnaaGreatDoorCards
import Derived.Lib.LaidTab
import Derived.LaidLaws
import Derived.Test.YtibhpbpjdgodnaaGreatDoorJQ
import Derived.Test.YtibhpbpjdgodnaaGreatDoorAmTrX
import Derived.Test.YtibhpbpjdgodnaaGreatDoorJN
/- The sheet of tables: its own question, by the fast machine. -/
namespace Go.Am.R2
open Go.Proofs
set_option maxRecDepth 100000
theorem alive30_run : yesV (rootB DE 400 30 Tryz.f30 [0]) (.b true) = true := by decide +kernel
end Go.Am.R2

/- The sheet's own question is answered yes: the machine is sound there. -/
namespace Go.Am.R2
open Go.Proofs
set_option maxRecDepth 100000
set_option linter.unusedSimpArgs false
set_option linter.unusedVariables false
theorem rel_clip {M : Mp} {w : World} {cs : List V} {n : Nat} {cl : Bool} {ys : List Value} (h : RelL M w [.arr cs n cl] ys) : RelL M w [.arr cs n false] ys := by
  cases h with
  | cons _ y _ ys h1 h2 =>
    cases h2
    cases h1 with
    | arr _ _ _ a vs k h1 h2 h3 h4 h5 h6 => exact .cons _ _ _ _ (.arr _ _ _ a vs k h1 h2 h3 h4 h5 (fun e => by cases e)) .nil
theorem glob_cln' : ∀ g cs, cfg.glob g = some cs → V.cleanL true cs = true := fun g cs h => glob_cln g cs (by rw [glob_eq]; exact h)
theorem primAtE {top : Nat} : ∀ f g, primE f = some g → PrimAt (cfgE top) f g := by
  intro f g h
  unfold primE at h
  split at h
  · rename_i e
    cases Nat.eq_of_beq_eq_true e
    cases h
    refine primAt_frz (C := cfgS) (C' := cfgE top) callOkS glob_cln rfl rfl fun args σ v hv => ?_
    unfold pSumA at hv
    split at hv
    case h_2 => cases hv
    rename_i x
    obtain ⟨ns, cl, h1, h2, _⟩ := rowy_frz hv
    obtain ⟨k, h3, h4⟩ := sumT h1
    refine ⟨k, [0], _, h3, ?_, h4, fun M w ys hr => ?_⟩
    · simp only [V.cleanL, V.clean, Bool.true_and, cleanL_ints]
    · rw [List.map_cons, List.map_nil, h2] at hr
      exact rel_clip hr
  split at h
  · rename_i e
    cases Nat.eq_of_beq_eq_true e
    cases h
    exact prim_idxS Tryz.func188 (by kernel_rfl) (by kernel_rfl) (by kernel_rfl) (by kernel_rfl)
  split at h
  · rename_i e
    cases Nat.eq_of_beq_eq_true e
    cases h
    refine primAt_frz (C := cfg) (C' := cfgE top) callOk glob_cln' rfl glob_eq fun args σ v hv => ?_
    unfold pUsedA at hv
    split at hv
    case h_2 => cases hv
    rename_i a b n x
    obtain ⟨ns, cl, h1, _, h2⟩ := rowy_frz hv
    obtain ⟨k, h3, h4⟩ := usedT (cl := cl) h1
    refine ⟨k, [], _, h3, ?_, h4, fun M w ys hr => ?_⟩
    · simp only [V.cleanL, V.clean, Bool.true_and, cleanL_ints]
    · have e : ∀ m : Nat, freeze1 0 σ 4 (.i .i64 (.ofNat m)) = .i .i64 (.ofNat m) := fun m => rfl
      simp only [List.map_cons, List.map_nil, freezeC, h2, e] at hr
      exact hr
  split at h
  · rename_i e
    cases Nat.eq_of_beq_eq_true e
    cases h
    refine primAt_frz (C := cfg) (C' := cfgE top) callOk glob_cln' rfl glob_eq fun args σ v hv => ?_
    unfold pMaxA at hv
    split at hv
    case h_2 => cases hv
    rename_i x
    obtain ⟨ns, cl, h1, h2, _⟩ := rowy_frz hv
    obtain ⟨k, h3, h4⟩ := maxT (cl := cl) h1
    refine ⟨k, [], _, h3, ?_, h4, fun M w ys hr => ?_⟩
    · simp only [V.cleanL, V.clean, Bool.true_and, cleanL_ints]
    · rw [List.map_cons, List.map_nil, h2] at hr
      exact hr
  split at h
  · rename_i e
    cases Nat.eq_of_beq_eq_true e
    cases h
    exact primAt81 rfl glob_eq
  · cases h
theorem iterE {top : Nat} : IterOk (cfgE top) := by
  intro gf it h
  have h : itA gf = some it := h
  unfold itA at h
  split at h
  · rename_i e
    cases Nat.eq_of_beq_eq_true e
    cases h
    exact iter_backward (C := cfgE top) (gf := 195) (z := 129) (tS := 32) (tE := 132) (tI := 3) (tB := 4) (tF := 241) Tryz.func195 rfl rfl rfl (by decide +kernel) (by kernel_rfl) (by kernel_rfl) (by decide) (by kernel_rfl) (by kernel_rfl)
  split at h
  · rename_i e
    cases Nat.eq_of_beq_eq_true e
    cases h
    exact iter_pieces (C := cfgE top) (gf := 106) (tI := 3) (tB := 4) (tP := 112) (tF := 150) Tryz.func106 rfl rfl rfl (by decide +kernel) (by kernel_rfl) (fun x y z => by kernel_rfl)
  · cases h
theorem primsE {top : Nat} : PrimOk (cfgE top) := { v := primOk_of primAtE, m := (fun f g h => by cases h), hook := hook_none fun _ _ => rfl, iter := iterE, still := stillAt rfl glob_eq }
theorem mixedE {top : Nat} : (cfgE top).P.follows .mixedOrders = true := mixed
theorem callOkE {top : Nat} (h : fnsOk (cfgE top) = true) (k : Nat) : CallOk (cfgE top) (runA (cfgE top) k) := run_sound primsE h (draw_sound mixedE primsE.still) k
theorem tokE {top : Nat} : tyK = mkK (cfgE top) tyL := by kernel_rfl
theorem pIdx_mono {args : List V} {m : Mem} {σ : List O} {v : V} (hm : MB m σ) (h : pIdxB args m = some v) : pIdxS args σ = some v := by
  unfold pIdxB at h
  split at h
  · cases h
  · rename_i x c hx
    split at h
    case h_2 => cases h
    rename_i n cs he
    split at h
    case h_2 => cases h
    rename_i ns hns
    split at h
    case h_2 => cases h
    rename_i hc
    have hc := blt_true hc
    split at h
    case h_2 => cases h
    rename_i r hr
    cases h
    have hcs := u8n_eq hns
    have hb : bytesOf cs = some (ns.map UInt8.ofNat) := by
      rw [hcs, bytesOf_ints, List.map_map]; rfl
    have e0 := elemsB_sound hm he
    have hi : Lib.indexByte (ns.map UInt8.ofNat) (UInt8.ofNat c) = r := by
      rcases find1_ok hc hr with ⟨rfl, h2⟩ | ⟨j, rfl, h2⟩
      · exact h2
      · rw [h2]; simp
    have hg : pIdxS [x, .i .u8 (.ofNat c)] σ = (elems 1 σ x).bind fun (_, cs) => (bytesOf cs).map fun l => .i .i64 (Lib.indexByte l (Int.ofNat c).toNat.toUInt8) := by
      cases x <;> first | rfl | exact (hx _ rfl).elim
    rw [hg, e0]
    simp only [Option.bind_some, hb, Option.map_some]
    show some (V.i .i64 (Lib.indexByte (ns.map UInt8.ofNat) (UInt8.ofNat c))) = _
    rw [hi]
  · cases h
theorem dokE {top : Nat} (ht : fnL.contains top = false) : DOk (cfgE top) DE where
  ty := tok_of tokE
  glob _ := rfl
  cls _ _ := rfl
  hook _ _ := rfl
  pre _ _ := rfl
  still _ := rfl
  fn f fn h1 h2 := by
    have h2 : fnK.getB f = some fn := h2
    rw [fnK_eq] at h2
    obtain ⟨h3, h4⟩ := mkF_ok h2
    have h1 : primEB f = none := h1
    refine ⟨?_, rfl, ?_, h4, fun p => ?_⟩
    · show primE f = none
      unfold primE
      unfold primEB at h1
      split at h1
      · cases h1
      split at h1
      · cases h1
      split at h1
      · cases h1
      split at h1
      · cases h1
      split at h1
      · cases h1
      · rename_i e1 _ e2 _ e3 _ e4 _ e5
        simp only [e1, e2, e3, e4, e5]
    · show barE top f = false
      unfold barE
      rw [List.contains_iff_mem.2 h3]; rfl
    · show (!(f == top)) = true
      rw [Bool.not_eq_true', beq_eq_false_iff_ne]
      rintro rfl
      rw [List.contains_iff_mem.2 h3] at ht
      cases ht
  iter f it h := by
    have h : itB f = some it := h
    unfold itB at h
    split at h
    · rename_i e
      cases h
      exact ⟨backA 129, (by show itA f = _; unfold itA; simp only [e]), fun cap m σ x hm hx => backB_sound hm hx⟩
    split at h
    · rename_i e1 _ e2
      cases h
      exact ⟨piecesA, (by show itA f = _; unfold itA; simp only [e1, e2]), fun cap m σ x hm hx => piecesB_sound hm hx⟩
    · cases h
  prim f g h := by
    have h : primEB f = some g := h
    unfold primEB at h
    split at h
    · rename_i e1
      cases h
      refine ⟨pSumA, (by show primE f = _; unfold primE; simp only [e1]), fun args m σ v hm hv => ?_⟩
      unfold pSumB at hv
      split at hv
      · exact on1_mono hm hv
      · cases hv
    split at h
    · rename_i e1 _ e2
      cases h
      exact ⟨pIdxS, (by show primE f = _; unfold primE; simp only [e1, e2]), fun args m σ v hm hv => pIdx_mono hm hv⟩
    split at h
    · rename_i e1 _ e2 _ e3
      cases h
      refine ⟨pUsedA, (by show primE f = _; unfold primE; simp only [e1, e2, e3]), fun args m σ v hm hv => ?_⟩
      unfold pUsedB at hv
      split at hv
      · exact on1_mono hm hv
      · cases hv
    split at h
    · rename_i e1 _ e2 _ e3 _ e4
      cases h
      refine ⟨pMaxA, (by show primE f = _; unfold primE; simp only [e1, e2, e3, e4]), fun args m σ v hm hv => ?_⟩
      unfold pMaxB at hv
      split at hv
      · exact on1_mono hm hv
      · cases hv
    split at h
    · rename_i e1 _ e2 _ e3 _ e4 _ e5
      cases h
      exact ⟨fun a _ => pInA a, (by show primE f = _; unfold primE; simp only [e1, e2, e3, e4, e5]), fun args m σ v hm hv => hv⟩
    · cases h
theorem aliveA : runA (cfgE 7) 401 7 [] [] [0] = some (.b true, []) :=
  rootB_sound (dokE (by decide +kernel)) (yesV_eq alive_run) (by kernel_rfl) rfl (by decide +kernel) Tryz.func7 rfl rfl
end Go.Am.R2

/- The sheet of flows: its own question is answered yes. -/
namespace Go.Am.R2
open Go.Proofs
set_option maxRecDepth 100000
theorem aliveF : runA (cfgE 24) 401 24 [] [] [0] = some (.b true, []) :=
  rootB_sound (dokE (by decide +kernel)) (yesV_eq alive24_run) (by kernel_rfl) rfl (by decide +kernel) Tryz.func24 rfl rfl
end Go.Am.R2

/- The sheet of tables: its own question is answered yes. -/
namespace Go.Am.R2
open Go.Proofs
set_option maxRecDepth 100000
theorem aliveT : runA (cfgE 30) 401 30 [] [] [0] = some (.b true, []) :=
  rootB_sound (dokE (by decide +kernel)) (yesV_eq alive30_run) (by kernel_rfl) rfl (by decide +kernel) Tryz.func30 rfl rfl
end Go.Am.R2

/- A new node of the document's, at the law's own numbers. -/
namespace Go.Am.R2
open Go.Proofs
set_option maxRecDepth 100000
set_option linter.unusedSimpArgs false
set_option linter.unusedVariables false
theorem fnsE31 : fnsOk (cfgE 31) = true := by decide +kernel
theorem new31_run : (match runA (cfgE 31) 60 31 [.i .i64 3, .i .i64 2] [] [0] with | some (v, σ) => V.eqb v (.tup [node3, .i .i64 0]) && σ.isEmpty | none => false) = true := by decide +kernel
noncomputable def pNew (args : List V) : Option V := match args with
  | [.i .i64 3, .i .i64 2] => some (.tup [node3, .i .i64 0])
  | _ => none
theorem primAt31 {C' : Cfg} (hP : C'.P = cfg.P) (hG : C'.glob = globB) : PrimAt C' 31 fun args _ => pNew args := by
  intro B0 args σ p v hv
  have hv : pNew args = some v := hv
  unfold pNew at hv
  split at hv
  case h_2 => cases hv
  cases hv
  have h0 := new31_run
  split at h0
  case h_2 => cases h0
  rename_i v σ' hr
  rw [Bool.and_eq_true] at h0
  obtain ⟨h1, h2⟩ := h0
  have h1 := V.eqb_eq h1
  have h2 : σ' = [] := by simpa using h2
  subst h1; subst h2
  exact prim_frz (callOkE fnsE31 60) (f := 31) (p0 := [0]) hr (by decide +kernel) (by decide +kernel) glob_cln hP hG (fun M w ys h => h)
end Go.Am.R2

/- The machine over this seat's program, for the laws: what the sheets ask of themselves is told. -/
namespace Go.Am.R2L
open Go.Proofs
set_option linter.unusedVariables false
set_option linter.unusedSimpArgs false
def pYes : List V → List O → Option V
  | [], _ => some (.b true)
  | _, _ => none
noncomputable def primT (f : Nat) : Option (List V → List O → Option V) := if f = 7 then some pYes else if f = 24 then some pYes else if f = 30 then some pYes else if f = 31 then some (fun a _ => R2.pNew a) else if f = 81 then some (fun a _ => R2.pInA a) else if f = 188 then some pIdxS else none
def barT (f : Nat) : Bool := f == 114
/-- The machine that walks the laws. -/
noncomputable def cfg : Cfg := R2.cfg.more primT barT
set_option maxRecDepth 100000
theorem fns : fnsOk cfg = true := by decide +kernel
theorem kpF {f : Nat} {p : List Nat} (h : [95].contains f = false) : cfg.keep f p = false := h
theorem kpT {f : Nat} {p : List Nat} (h : [95].contains f = true) : cfg.keep f p = true := h
theorem mixed : cfg.P.follows .mixedOrders = true := by kernel_rfl
theorem primAt : ∀ f g, primT f = some g → PrimAt cfg f g := by
  intro f g h'
  unfold primT at h'
  split at h'
  · rename_i e; subst e; cases h'
    refine primAt_frz (C := R2.cfgE 7) (C' := cfg) (R2.callOkE R2.fnsE7) R2.glob_cln rfl R2.glob_eq.symm fun args σ v hv => ?_
    unfold pYes at hv
    split at hv
    · cases hv
      exact ⟨401, [0], [], R2.aliveA, rfl, rfl, fun _ _ _ h => h⟩
    · cases hv
  split at h'
  · rename_i e; subst e; cases h'
    refine primAt_frz (C := R2.cfgE 24) (C' := cfg) (R2.callOkE R2.fnsE24) R2.glob_cln rfl R2.glob_eq.symm fun args σ v hv => ?_
    unfold pYes at hv
    split at hv
    · cases hv
      exact ⟨401, [0], [], R2.aliveF, rfl, rfl, fun _ _ _ h => h⟩
    · cases hv
  split at h'
  · rename_i e; subst e; cases h'
    refine primAt_frz (C := R2.cfgE 30) (C' := cfg) (R2.callOkE R2.fnsE30) R2.glob_cln rfl R2.glob_eq.symm fun args σ v hv => ?_
    unfold pYes at hv
    split at hv
    · cases hv
      exact ⟨401, [0], [], R2.aliveT, rfl, rfl, fun _ _ _ h => h⟩
    · cases hv
  split at h'
  · rename_i e; subst e; cases h'; exact R2.primAt31 rfl R2.glob_eq.symm
  split at h'
  · rename_i e; subst e; cases h'; exact R2.primAt81 rfl rfl
  split at h'
  · rename_i e; subst e; cases h'; exact prim_idxS Tryz.func188 (by kernel_rfl) (by kernel_rfl) (by kernel_rfl) (by kernel_rfl)
  · cases h'
theorem hooks : HookOk cfg := by
  intro g id h hh fn c0 ops _ _ _ B0 p s s' a M w _ hs
  have hh : R2.hookT g id = some h := hh
  unfold R2.hookT at hh
  split at hh
  · cases hh; cases hs
  · cases hh
theorem prims : PrimOk cfg := { v := primOk_of primAt, m := (fun f g h => by cases h), hook := hooks }
theorem yes30 {σ : List O} {p : List Nat} : runF cfg 30 [] σ p = some (.b true, σ) := run_prim rfl rfl
/-- What is shown in the machine that doesn't know the sheets' own questions holds here. -/
theorem up {f : Nat} {args : List V} {σ : List O} {p : List Nat} {r : V × List O} (h : runF R2.cfg f args σ p = some r) : runF cfg f args σ p = some r := by
  refine runF_more (fun f g h => ?_) (fun f h1 h2 h3 => ?_) (fun f g _ h => by cases h) h
  · have h : R2.primT f = some g := h
    unfold R2.primT at h
    split at h
    · rename_i e; subst e; exact h
    · cases h
  · have h1 : R2.primT f = none := h1
    have h3 : R2.barT f = false := h3
    simp only [R2.barT, Bool.or_eq_false_iff, beq_eq_false_iff_ne, ne_eq] at h3
    unfold R2.primT at h1
    split at h1
    · cases h1
    · rename_i e
      refine ⟨?_, ?_⟩
      · unfold primT
        rw [if_neg (by omega), if_neg (by omega), if_neg (by omega), if_neg (by omega), if_neg (by omega), if_neg e]
      · simp only [barT, Bool.or_eq_false_iff, beq_eq_false_iff_ne, ne_eq]
        omega
end Go.Am.R2L

/- Facts of types, for the laws. -/
namespace Go.Am.R2L
open Go.Proofs
set_option maxRecDepth 100000
set_option linter.unusedVariables false
set_option linter.unusedSimpArgs false
theorem sh3 : cfg.shape 3 = .int .i64 := by kernel_rfl
theorem sz3 : cfg.size 3 = some 1 := by kernel_rfl
theorem by3 : cfg.bytes 3 = 8 := by kernel_rfl
theorem ag3 : cfg.isAgg 3 = some false := by kernel_rfl
theorem kn3 : known cfg 3 = true := by kernel_rfl
theorem ze3 : cfg.zero 3 = some (.i .i64 0) := by kernel_rfl
theorem sh4 : cfg.shape 4 = .other := by kernel_rfl
theorem sz4 : cfg.size 4 = some 1 := by kernel_rfl
theorem by4 : cfg.bytes 4 = 1 := by kernel_rfl
theorem ag4 : cfg.isAgg 4 = some false := by kernel_rfl
theorem kn4 : known cfg 4 = true := by kernel_rfl
theorem ze4 : cfg.zero 4 = some (.b false) := by kernel_rfl
theorem sh5 : cfg.shape 5 = .int .u8 := by kernel_rfl
theorem sz5 : cfg.size 5 = some 1 := by kernel_rfl
theorem by5 : cfg.bytes 5 = 1 := by kernel_rfl
theorem ag5 : cfg.isAgg 5 = some false := by kernel_rfl
theorem kn5 : known cfg 5 = true := by kernel_rfl
theorem ze5 : cfg.zero 5 = some (.i .u8 0) := by kernel_rfl
theorem sh22 : cfg.shape 22 = .array 32 5 := by kernel_rfl
theorem sz22 : cfg.size 22 = some 32 := by kernel_rfl
theorem by22 : cfg.bytes 22 = 32 := by kernel_rfl
theorem ag22 : cfg.isAgg 22 = some true := by kernel_rfl
theorem kn22 : known cfg 22 = true := by kernel_rfl
theorem ze22 : cfg.zero 22 = some (.agg [(.i .u8 0), (.i .u8 0), (.i .u8 0), (.i .u8 0), (.i .u8 0), (.i .u8 0), (.i .u8 0), (.i .u8 0), (.i .u8 0), (.i .u8 0), (.i .u8 0), (.i .u8 0), (.i .u8 0), (.i .u8 0), (.i .u8 0), (.i .u8 0), (.i .u8 0), (.i .u8 0), (.i .u8 0), (.i .u8 0), (.i .u8 0), (.i .u8 0), (.i .u8 0), (.i .u8 0), (.i .u8 0), (.i .u8 0), (.i .u8 0), (.i .u8 0), (.i .u8 0), (.i .u8 0), (.i .u8 0), (.i .u8 0)]) := by kernel_rfl
theorem fk22 : flat cfg 20 22 = some (List.replicate 32 (.i .u8) : List Fk) := by kernel_rfl
theorem sh24 : cfg.shape 24 = .other := by kernel_rfl
theorem sz24 : cfg.size 24 = some 34 := by kernel_rfl
theorem by24 : cfg.bytes 24 = 48 := by kernel_rfl
theorem ag24 : cfg.isAgg 24 = some true := by kernel_rfl
theorem kn24 : known cfg 24 = true := by kernel_rfl
theorem ze24 : cfg.zero 24 = some (.agg [(.i .i64 0), (.i .i64 0), (.i .u8 0), (.i .u8 0), (.i .u8 0), (.i .u8 0), (.i .u8 0), (.i .u8 0), (.i .u8 0), (.i .u8 0), (.i .u8 0), (.i .u8 0), (.i .u8 0), (.i .u8 0), (.i .u8 0), (.i .u8 0), (.i .u8 0), (.i .u8 0), (.i .u8 0), (.i .u8 0), (.i .u8 0), (.i .u8 0), (.i .u8 0), (.i .u8 0), (.i .u8 0), (.i .u8 0), (.i .u8 0), (.i .u8 0), (.i .u8 0), (.i .u8 0), (.i .u8 0), (.i .u8 0), (.i .u8 0), (.i .u8 0)]) := by kernel_rfl
theorem fk24 : flat cfg 20 24 = some ([(.i .i64), (.i .i64)] ++ List.replicate 32 (.i .u8) : List Fk) := by kernel_rfl
theorem pl24 : cfg.places 24 = some [(0, 1), (1, 1), (2, 32)] := by kernel_rfl
theorem sh26 : cfg.shape 26 = .other := by kernel_rfl
theorem sz26 : cfg.size 26 = some 36 := by kernel_rfl
theorem by26 : cfg.bytes 26 = 64 := by kernel_rfl
theorem ag26 : cfg.isAgg 26 = some true := by kernel_rfl
theorem kn26 : known cfg 26 = true := by kernel_rfl
theorem ze26 : cfg.zero 26 = some (.agg [(.i .i64 0), (.i .i64 0), (.i .u8 0), (.i .u8 0), (.i .u8 0), (.i .u8 0), (.i .u8 0), (.i .u8 0), (.i .u8 0), (.i .u8 0), (.i .u8 0), (.i .u8 0), (.i .u8 0), (.i .u8 0), (.i .u8 0), (.i .u8 0), (.i .u8 0), (.i .u8 0), (.i .u8 0), (.i .u8 0), (.i .u8 0), (.i .u8 0), (.i .u8 0), (.i .u8 0), (.i .u8 0), (.i .u8 0), (.i .u8 0), (.i .u8 0), (.i .u8 0), (.i .u8 0), (.i .u8 0), (.i .u8 0), (.i .u8 0), (.i .u8 0), (.i .i64 0), (.i .i64 0)]) := by kernel_rfl
theorem fk26 : flat cfg 20 26 = some ([(.i .i64), (.i .i64)] ++ List.replicate 32 (.i .u8) ++ [(.i .i64), (.i .i64)] : List Fk) := by kernel_rfl
theorem pl26 : cfg.places 26 = some [(0, 34), (34, 1), (35, 1)] := by kernel_rfl
theorem sh31 : cfg.shape 31 = .slice 148 := by kernel_rfl
theorem sz31 : cfg.size 31 = some 1 := by kernel_rfl
theorem by31 : cfg.bytes 31 = 24 := by kernel_rfl
theorem ag31 : cfg.isAgg 31 = some false := by kernel_rfl
theorem kn31 : known cfg 31 = true := by kernel_rfl
theorem el31 : cfg.elem 31 = some (148, 130, (.agg [(.i .u8 0), (.i .u8 0), (.i .u8 0), (.i .u8 0), (.i .u8 0), (.i .u8 0), (.i .u8 0), (.i .u8 0), (.i .u8 0), (.i .u8 0), (.i .u8 0), (.i .u8 0), (.i .u8 0), (.i .u8 0), (.i .u8 0), (.i .u8 0), (.i .u8 0), (.i .u8 0), (.i .u8 0), (.i .u8 0), (.i .u8 0), (.i .u8 0), (.i .u8 0), (.i .u8 0), (.i .u8 0), (.i .u8 0), (.i .u8 0), (.i .u8 0), (.i .u8 0), (.i .u8 0), (.i .u8 0), (.i .u8 0), (.i .u8 0), (.i .u8 0), (.i .u8 0), (.i .u8 0), (.i .u8 0), (.i .u8 0), (.i .u8 0), (.i .u8 0), (.i .u8 0), (.i .u8 0), (.i .u8 0), (.i .u8 0), (.i .u8 0), (.i .u8 0), (.i .u8 0), (.i .u8 0), (.i .u8 0), (.i .u8 0), (.i .u8 0), (.i .u8 0), (.i .u8 0), (.i .u8 0), (.i .u8 0), (.i .u8 0), (.i .u8 0), (.i .u8 0), (.i .u8 0), (.i .u8 0), (.i .u8 0), (.i .u8 0), (.i .u8 0), (.i .u8 0), (.i .u8 0), (.i .u8 0), (.i .u8 0), (.i .u8 0), (.i .u8 0), (.i .u8 0), (.i .u8 0), (.i .u8 0), (.i .u8 0), (.i .u8 0), (.i .u8 0), (.i .u8 0), (.i .u8 0), (.i .u8 0), (.i .u8 0), (.i .u8 0), (.i .u8 0), (.i .u8 0), (.i .u8 0), (.i .u8 0), (.i .u8 0), (.i .u8 0), (.i .u8 0), (.i .u8 0), (.i .u8 0), (.i .u8 0), (.i .u8 0), (.i .u8 0), (.i .u8 0), (.i .u8 0), (.i .u8 0), (.i .u8 0), (.i .u8 0), (.i .u8 0), (.i .u8 0), (.i .u8 0), (.i .u8 0), (.i .u8 0), (.i .u8 0), (.i .u8 0), (.i .u8 0), (.i .u8 0), (.i .u8 0), (.i .u8 0), (.i .u8 0), (.i .u8 0), (.i .u8 0), (.i .u8 0), (.i .u8 0), (.i .u8 0), (.i .u8 0), (.i .u8 0), (.i .u8 0), (.i .u8 0), (.i .u8 0), (.i .u8 0), (.i .u8 0), (.i .u8 0), (.i .u8 0), (.i .u8 0), (.i .u8 0), (.i .u8 0), (.i .u8 0), (.i .u8 0), (.b false), (.b false)])) := by kernel_rfl
theorem ze31 : cfg.zero 31 = some .nils := by kernel_rfl
theorem sh32 : cfg.shape 32 = .slice 132 := by kernel_rfl
theorem sz32 : cfg.size 32 = some 1 := by kernel_rfl
theorem by32 : cfg.bytes 32 = 24 := by kernel_rfl
theorem ag32 : cfg.isAgg 32 = some false := by kernel_rfl
theorem kn32 : known cfg 32 = true := by kernel_rfl
theorem el32 : cfg.elem 32 = some (132, 129, (.agg [(.i .i64 0), (.i .u8 0), (.i .u8 0), (.i .u8 0), (.i .u8 0), (.i .u8 0), (.i .u8 0), (.i .u8 0), (.i .u8 0), (.i .u8 0), (.i .u8 0), (.i .u8 0), (.i .u8 0), (.i .u8 0), (.i .u8 0), (.i .u8 0), (.i .u8 0), (.i .u8 0), (.i .u8 0), (.i .u8 0), (.i .u8 0), (.i .u8 0), (.i .u8 0), (.i .u8 0), (.i .u8 0), (.i .u8 0), (.i .u8 0), (.i .u8 0), (.i .u8 0), (.i .u8 0), (.i .u8 0), (.i .u8 0), (.i .u8 0), (.i .u8 0), (.i .u8 0), (.i .u8 0), (.i .u8 0), (.i .u8 0), (.i .u8 0), (.i .u8 0), (.i .u8 0), (.i .u8 0), (.i .u8 0), (.i .u8 0), (.i .u8 0), (.i .u8 0), (.i .u8 0), (.i .u8 0), (.i .u8 0), (.i .u8 0), (.i .u8 0), (.i .u8 0), (.i .u8 0), (.i .u8 0), (.i .u8 0), (.i .u8 0), (.i .u8 0), (.i .u8 0), (.i .u8 0), (.i .u8 0), (.i .u8 0), (.i .u8 0), (.i .u8 0), (.i .u8 0), (.i .u8 0), (.i .u8 0), (.i .u8 0), (.i .u8 0), (.i .u8 0), (.i .u8 0), (.i .u8 0), (.i .u8 0), (.i .u8 0), (.i .u8 0), (.i .u8 0), (.i .u8 0), (.i .u8 0), (.i .u8 0), (.i .u8 0), (.i .u8 0), (.i .u8 0), (.i .u8 0), (.i .u8 0), (.i .u8 0), (.i .u8 0), (.i .u8 0), (.i .u8 0), (.i .u8 0), (.i .u8 0), (.i .u8 0), (.i .u8 0), (.i .u8 0), (.i .u8 0), (.i .u8 0), (.i .u8 0), (.i .u8 0), (.i .u8 0), (.i .u8 0), (.i .u8 0), (.i .u8 0), (.i .u8 0), (.i .u8 0), (.i .u8 0), (.i .u8 0), (.i .u8 0), (.i .u8 0), (.i .u8 0), (.i .u8 0), (.i .u8 0), (.i .u8 0), (.i .u8 0), (.i .u8 0), (.i .u8 0), (.i .u8 0), (.i .u8 0), (.i .u8 0), (.i .u8 0), (.i .u8 0), (.i .u8 0), (.i .u8 0), (.i .u8 0), (.i .u8 0), (.i .u8 0), (.i .u8 0), (.i .u8 0), (.i .u8 0), (.i .u8 0), (.i .u8 0), (.i .u8 0)])) := by kernel_rfl
theorem ze32 : cfg.zero 32 = some .nils := by kernel_rfl
theorem sh34 : cfg.shape 34 = .other := by kernel_rfl
theorem sz34 : cfg.size 34 = some 4 := by kernel_rfl
theorem by34 : cfg.bytes 34 = 64 := by kernel_rfl
theorem ag34 : cfg.isAgg 34 = some true := by kernel_rfl
theorem kn34 : known cfg 34 = true := by kernel_rfl
theorem ze34 : cfg.zero 34 = some (.agg [.nils, .nils, (.i .i64 0), (.b false)]) := by kernel_rfl
theorem pl34 : cfg.places 34 = some [(0, 1), (1, 1), (2, 1), (3, 1)] := by kernel_rfl
theorem sh35 : cfg.shape 35 = .slice 134 := by kernel_rfl
theorem sz35 : cfg.size 35 = some 1 := by kernel_rfl
theorem by35 : cfg.bytes 35 = 24 := by kernel_rfl
theorem ag35 : cfg.isAgg 35 = some false := by kernel_rfl
theorem kn35 : known cfg 35 = true := by kernel_rfl
theorem el35 : cfg.elem 35 = some (134, 2, (.agg [(.i .i64 0), (.i .i64 0)])) := by kernel_rfl
theorem ze35 : cfg.zero 35 = some .nils := by kernel_rfl
theorem sh37 : cfg.shape 37 = .other := by kernel_rfl
theorem sz37 : cfg.size 37 = some 2 := by kernel_rfl
theorem by37 : cfg.bytes 37 = 32 := by kernel_rfl
theorem ag37 : cfg.isAgg 37 = some true := by kernel_rfl
theorem kn37 : known cfg 37 = true := by kernel_rfl
theorem ze37 : cfg.zero 37 = some (.agg [(.i .i64 0), .nils]) := by kernel_rfl
theorem pl37 : cfg.places 37 = some [(0, 1), (1, 1)] := by kernel_rfl
theorem sh38 : cfg.shape 38 = .array 2 3 := by kernel_rfl
theorem sz38 : cfg.size 38 = some 2 := by kernel_rfl
theorem by38 : cfg.bytes 38 = 16 := by kernel_rfl
theorem ag38 : cfg.isAgg 38 = some true := by kernel_rfl
theorem kn38 : known cfg 38 = true := by kernel_rfl
theorem ze38 : cfg.zero 38 = some (.agg [(.i .i64 0), (.i .i64 0)]) := by kernel_rfl
theorem fk38 : flat cfg 20 38 = some ([(.i .i64), (.i .i64)] : List Fk) := by kernel_rfl
theorem sh39 : cfg.shape 39 = .slice 5 := by kernel_rfl
theorem sz39 : cfg.size 39 = some 1 := by kernel_rfl
theorem by39 : cfg.bytes 39 = 24 := by kernel_rfl
theorem ag39 : cfg.isAgg 39 = some false := by kernel_rfl
theorem kn39 : known cfg 39 = true := by kernel_rfl
theorem el39 : cfg.elem 39 = some (5, 1, (.i .u8 0)) := by kernel_rfl
theorem ze39 : cfg.zero 39 = some .nils := by kernel_rfl
theorem sh41 : cfg.shape 41 = .other := by kernel_rfl
theorem sz41 : cfg.size 41 = some 4 := by kernel_rfl
theorem by41 : cfg.bytes 41 = 48 := by kernel_rfl
theorem ag41 : cfg.isAgg 41 = some true := by kernel_rfl
theorem kn41 : known cfg 41 = true := by kernel_rfl
theorem ze41 : cfg.zero 41 = some (.agg [(.i .i64 0), (.i .i64 0), (.i .i64 0), .nils]) := by kernel_rfl
theorem pl41 : cfg.places 41 = some [(0, 2), (2, 1), (3, 1)] := by kernel_rfl
theorem sh43 : cfg.shape 43 = .other := by kernel_rfl
theorem sz43 : cfg.size 43 = some 10 := by kernel_rfl
theorem by43 : cfg.bytes 43 = 144 := by kernel_rfl
theorem ag43 : cfg.isAgg 43 = some true := by kernel_rfl
theorem kn43 : known cfg 43 = true := by kernel_rfl
theorem ze43 : cfg.zero 43 = some (.agg [.nils, .nils, (.i .i64 0), (.b false), (.i .i64 0), .nils, (.i .i64 0), (.i .i64 0), (.i .i64 0), .nils]) := by kernel_rfl
theorem pl43 : cfg.places 43 = some [(0, 4), (4, 2), (6, 4)] := by kernel_rfl
theorem sh47 : cfg.shape 47 = .array 128 5 := by kernel_rfl
theorem sz47 : cfg.size 47 = some 128 := by kernel_rfl
theorem by47 : cfg.bytes 47 = 128 := by kernel_rfl
theorem ag47 : cfg.isAgg 47 = some true := by kernel_rfl
theorem kn47 : known cfg 47 = true := by kernel_rfl
theorem ze47 : cfg.zero 47 = some (.agg [(.i .u8 0), (.i .u8 0), (.i .u8 0), (.i .u8 0), (.i .u8 0), (.i .u8 0), (.i .u8 0), (.i .u8 0), (.i .u8 0), (.i .u8 0), (.i .u8 0), (.i .u8 0), (.i .u8 0), (.i .u8 0), (.i .u8 0), (.i .u8 0), (.i .u8 0), (.i .u8 0), (.i .u8 0), (.i .u8 0), (.i .u8 0), (.i .u8 0), (.i .u8 0), (.i .u8 0), (.i .u8 0), (.i .u8 0), (.i .u8 0), (.i .u8 0), (.i .u8 0), (.i .u8 0), (.i .u8 0), (.i .u8 0), (.i .u8 0), (.i .u8 0), (.i .u8 0), (.i .u8 0), (.i .u8 0), (.i .u8 0), (.i .u8 0), (.i .u8 0), (.i .u8 0), (.i .u8 0), (.i .u8 0), (.i .u8 0), (.i .u8 0), (.i .u8 0), (.i .u8 0), (.i .u8 0), (.i .u8 0), (.i .u8 0), (.i .u8 0), (.i .u8 0), (.i .u8 0), (.i .u8 0), (.i .u8 0), (.i .u8 0), (.i .u8 0), (.i .u8 0), (.i .u8 0), (.i .u8 0), (.i .u8 0), (.i .u8 0), (.i .u8 0), (.i .u8 0), (.i .u8 0), (.i .u8 0), (.i .u8 0), (.i .u8 0), (.i .u8 0), (.i .u8 0), (.i .u8 0), (.i .u8 0), (.i .u8 0), (.i .u8 0), (.i .u8 0), (.i .u8 0), (.i .u8 0), (.i .u8 0), (.i .u8 0), (.i .u8 0), (.i .u8 0), (.i .u8 0), (.i .u8 0), (.i .u8 0), (.i .u8 0), (.i .u8 0), (.i .u8 0), (.i .u8 0), (.i .u8 0), (.i .u8 0), (.i .u8 0), (.i .u8 0), (.i .u8 0), (.i .u8 0), (.i .u8 0), (.i .u8 0), (.i .u8 0), (.i .u8 0), (.i .u8 0), (.i .u8 0), (.i .u8 0), (.i .u8 0), (.i .u8 0), (.i .u8 0), (.i .u8 0), (.i .u8 0), (.i .u8 0), (.i .u8 0), (.i .u8 0), (.i .u8 0), (.i .u8 0), (.i .u8 0), (.i .u8 0), (.i .u8 0), (.i .u8 0), (.i .u8 0), (.i .u8 0), (.i .u8 0), (.i .u8 0), (.i .u8 0), (.i .u8 0), (.i .u8 0), (.i .u8 0), (.i .u8 0), (.i .u8 0), (.i .u8 0), (.i .u8 0), (.i .u8 0)]) := by kernel_rfl
theorem fk47 : flat cfg 20 47 = some (List.replicate 128 (.i .u8) : List Fk) := by kernel_rfl
theorem sh48 : cfg.shape 48 = .int .i64 := by kernel_rfl
theorem sz48 : cfg.size 48 = some 1 := by kernel_rfl
theorem by48 : cfg.bytes 48 = 8 := by kernel_rfl
theorem ag48 : cfg.isAgg 48 = some false := by kernel_rfl
theorem kn48 : known cfg 48 = true := by kernel_rfl
theorem ze48 : cfg.zero 48 = some (.i .i64 0) := by kernel_rfl
theorem sh120 : cfg.shape 120 = .array 64 5 := by kernel_rfl
theorem sz120 : cfg.size 120 = some 64 := by kernel_rfl
theorem by120 : cfg.bytes 120 = 64 := by kernel_rfl
theorem ag120 : cfg.isAgg 120 = some true := by kernel_rfl
theorem kn120 : known cfg 120 = true := by kernel_rfl
theorem ze120 : cfg.zero 120 = some (.agg [(.i .u8 0), (.i .u8 0), (.i .u8 0), (.i .u8 0), (.i .u8 0), (.i .u8 0), (.i .u8 0), (.i .u8 0), (.i .u8 0), (.i .u8 0), (.i .u8 0), (.i .u8 0), (.i .u8 0), (.i .u8 0), (.i .u8 0), (.i .u8 0), (.i .u8 0), (.i .u8 0), (.i .u8 0), (.i .u8 0), (.i .u8 0), (.i .u8 0), (.i .u8 0), (.i .u8 0), (.i .u8 0), (.i .u8 0), (.i .u8 0), (.i .u8 0), (.i .u8 0), (.i .u8 0), (.i .u8 0), (.i .u8 0), (.i .u8 0), (.i .u8 0), (.i .u8 0), (.i .u8 0), (.i .u8 0), (.i .u8 0), (.i .u8 0), (.i .u8 0), (.i .u8 0), (.i .u8 0), (.i .u8 0), (.i .u8 0), (.i .u8 0), (.i .u8 0), (.i .u8 0), (.i .u8 0), (.i .u8 0), (.i .u8 0), (.i .u8 0), (.i .u8 0), (.i .u8 0), (.i .u8 0), (.i .u8 0), (.i .u8 0), (.i .u8 0), (.i .u8 0), (.i .u8 0), (.i .u8 0), (.i .u8 0), (.i .u8 0), (.i .u8 0), (.i .u8 0)]) := by kernel_rfl
theorem fk120 : flat cfg 20 120 = some (List.replicate 64 (.i .u8) : List Fk) := by kernel_rfl
theorem sh132 : cfg.shape 132 = .other := by kernel_rfl
theorem sz132 : cfg.size 132 = some 129 := by kernel_rfl
theorem by132 : cfg.bytes 132 = 136 := by kernel_rfl
theorem ag132 : cfg.isAgg 132 = some true := by kernel_rfl
theorem kn132 : known cfg 132 = true := by kernel_rfl
theorem ze132 : cfg.zero 132 = some (.agg [(.i .i64 0), (.i .u8 0), (.i .u8 0), (.i .u8 0), (.i .u8 0), (.i .u8 0), (.i .u8 0), (.i .u8 0), (.i .u8 0), (.i .u8 0), (.i .u8 0), (.i .u8 0), (.i .u8 0), (.i .u8 0), (.i .u8 0), (.i .u8 0), (.i .u8 0), (.i .u8 0), (.i .u8 0), (.i .u8 0), (.i .u8 0), (.i .u8 0), (.i .u8 0), (.i .u8 0), (.i .u8 0), (.i .u8 0), (.i .u8 0), (.i .u8 0), (.i .u8 0), (.i .u8 0), (.i .u8 0), (.i .u8 0), (.i .u8 0), (.i .u8 0), (.i .u8 0), (.i .u8 0), (.i .u8 0), (.i .u8 0), (.i .u8 0), (.i .u8 0), (.i .u8 0), (.i .u8 0), (.i .u8 0), (.i .u8 0), (.i .u8 0), (.i .u8 0), (.i .u8 0), (.i .u8 0), (.i .u8 0), (.i .u8 0), (.i .u8 0), (.i .u8 0), (.i .u8 0), (.i .u8 0), (.i .u8 0), (.i .u8 0), (.i .u8 0), (.i .u8 0), (.i .u8 0), (.i .u8 0), (.i .u8 0), (.i .u8 0), (.i .u8 0), (.i .u8 0), (.i .u8 0), (.i .u8 0), (.i .u8 0), (.i .u8 0), (.i .u8 0), (.i .u8 0), (.i .u8 0), (.i .u8 0), (.i .u8 0), (.i .u8 0), (.i .u8 0), (.i .u8 0), (.i .u8 0), (.i .u8 0), (.i .u8 0), (.i .u8 0), (.i .u8 0), (.i .u8 0), (.i .u8 0), (.i .u8 0), (.i .u8 0), (.i .u8 0), (.i .u8 0), (.i .u8 0), (.i .u8 0), (.i .u8 0), (.i .u8 0), (.i .u8 0), (.i .u8 0), (.i .u8 0), (.i .u8 0), (.i .u8 0), (.i .u8 0), (.i .u8 0), (.i .u8 0), (.i .u8 0), (.i .u8 0), (.i .u8 0), (.i .u8 0), (.i .u8 0), (.i .u8 0), (.i .u8 0), (.i .u8 0), (.i .u8 0), (.i .u8 0), (.i .u8 0), (.i .u8 0), (.i .u8 0), (.i .u8 0), (.i .u8 0), (.i .u8 0), (.i .u8 0), (.i .u8 0), (.i .u8 0), (.i .u8 0), (.i .u8 0), (.i .u8 0), (.i .u8 0), (.i .u8 0), (.i .u8 0), (.i .u8 0), (.i .u8 0), (.i .u8 0), (.i .u8 0), (.i .u8 0)]) := by kernel_rfl
theorem fk132 : flat cfg 20 132 = some ([(.i .i64)] ++ List.replicate 128 (.i .u8) : List Fk) := by kernel_rfl
theorem pl132 : cfg.places 132 = some [(0, 1), (1, 128)] := by kernel_rfl
theorem sz134 : cfg.size 134 = some 2 := by kernel_rfl
theorem sh148 : cfg.shape 148 = .other := by kernel_rfl
theorem sz148 : cfg.size 148 = some 130 := by kernel_rfl
theorem by148 : cfg.bytes 148 = 130 := by kernel_rfl
theorem ag148 : cfg.isAgg 148 = some true := by kernel_rfl
theorem kn148 : known cfg 148 = true := by kernel_rfl
theorem ze148 : cfg.zero 148 = some (.agg [(.i .u8 0), (.i .u8 0), (.i .u8 0), (.i .u8 0), (.i .u8 0), (.i .u8 0), (.i .u8 0), (.i .u8 0), (.i .u8 0), (.i .u8 0), (.i .u8 0), (.i .u8 0), (.i .u8 0), (.i .u8 0), (.i .u8 0), (.i .u8 0), (.i .u8 0), (.i .u8 0), (.i .u8 0), (.i .u8 0), (.i .u8 0), (.i .u8 0), (.i .u8 0), (.i .u8 0), (.i .u8 0), (.i .u8 0), (.i .u8 0), (.i .u8 0), (.i .u8 0), (.i .u8 0), (.i .u8 0), (.i .u8 0), (.i .u8 0), (.i .u8 0), (.i .u8 0), (.i .u8 0), (.i .u8 0), (.i .u8 0), (.i .u8 0), (.i .u8 0), (.i .u8 0), (.i .u8 0), (.i .u8 0), (.i .u8 0), (.i .u8 0), (.i .u8 0), (.i .u8 0), (.i .u8 0), (.i .u8 0), (.i .u8 0), (.i .u8 0), (.i .u8 0), (.i .u8 0), (.i .u8 0), (.i .u8 0), (.i .u8 0), (.i .u8 0), (.i .u8 0), (.i .u8 0), (.i .u8 0), (.i .u8 0), (.i .u8 0), (.i .u8 0), (.i .u8 0), (.i .u8 0), (.i .u8 0), (.i .u8 0), (.i .u8 0), (.i .u8 0), (.i .u8 0), (.i .u8 0), (.i .u8 0), (.i .u8 0), (.i .u8 0), (.i .u8 0), (.i .u8 0), (.i .u8 0), (.i .u8 0), (.i .u8 0), (.i .u8 0), (.i .u8 0), (.i .u8 0), (.i .u8 0), (.i .u8 0), (.i .u8 0), (.i .u8 0), (.i .u8 0), (.i .u8 0), (.i .u8 0), (.i .u8 0), (.i .u8 0), (.i .u8 0), (.i .u8 0), (.i .u8 0), (.i .u8 0), (.i .u8 0), (.i .u8 0), (.i .u8 0), (.i .u8 0), (.i .u8 0), (.i .u8 0), (.i .u8 0), (.i .u8 0), (.i .u8 0), (.i .u8 0), (.i .u8 0), (.i .u8 0), (.i .u8 0), (.i .u8 0), (.i .u8 0), (.i .u8 0), (.i .u8 0), (.i .u8 0), (.i .u8 0), (.i .u8 0), (.i .u8 0), (.i .u8 0), (.i .u8 0), (.i .u8 0), (.i .u8 0), (.i .u8 0), (.i .u8 0), (.i .u8 0), (.i .u8 0), (.i .u8 0), (.i .u8 0), (.i .u8 0), (.i .u8 0), (.b false), (.b false)]) := by kernel_rfl
theorem fk148 : flat cfg 20 148 = some (List.replicate 128 (.i .u8) ++ [.b, .b] : List Fk) := by kernel_rfl
theorem pl148 : cfg.places 148 = some [(0, 128), (128, 1), (129, 1)] := by kernel_rfl
theorem ld3 {σ : List O} {r o : Nat} {st : List Nat} : loadA cfg 3 σ (.ptr r st o) = (rowAt σ r st).bind fun cs => cs[o]? := load_sc ag3
theorem li3 {σ : List O} {cs : List V} : loadA cfg 3 σ (.iptr cs) = cs[0]? := load_ip ag3
theorem sto3 {σ : List O} {r o : Nat} {st : List Nat} {v : V} (hv : v.one = true) : storeA cfg 3 σ (.ptr r st o) v = (rowAt σ r st).bind fun cs => if o < cs.length then some (σ.set r (.cells st (cs.set o v))) else none := store_sc sz3 hv
theorem ld4 {σ : List O} {r o : Nat} {st : List Nat} : loadA cfg 4 σ (.ptr r st o) = (rowAt σ r st).bind fun cs => cs[o]? := load_sc ag4
theorem li4 {σ : List O} {cs : List V} : loadA cfg 4 σ (.iptr cs) = cs[0]? := load_ip ag4
theorem sto4 {σ : List O} {r o : Nat} {st : List Nat} {v : V} (hv : v.one = true) : storeA cfg 4 σ (.ptr r st o) v = (rowAt σ r st).bind fun cs => if o < cs.length then some (σ.set r (.cells st (cs.set o v))) else none := store_sc sz4 hv
theorem ld5 {σ : List O} {r o : Nat} {st : List Nat} : loadA cfg 5 σ (.ptr r st o) = (rowAt σ r st).bind fun cs => cs[o]? := load_sc ag5
theorem li5 {σ : List O} {cs : List V} : loadA cfg 5 σ (.iptr cs) = cs[0]? := load_ip ag5
theorem sto5 {σ : List O} {r o : Nat} {st : List Nat} {v : V} (hv : v.one = true) : storeA cfg 5 σ (.ptr r st o) v = (rowAt σ r st).bind fun cs => if o < cs.length then some (σ.set r (.cells st (cs.set o v))) else none := store_sc sz5 hv
theorem ipi22 {r o : Nat} {i : Int} {st : List Nat} {k : IntKind} (h0 : 0 ≤ i) (h1 : i < 32) : indexAddrA cfg 22 (.ptr r st o) (.i k i) = some (.ptr r st (o + i.toNat * 1)) := ipi (m := 32) sh22 sz5 h0 h1
theorem ixv22 {i : Int} {cs : List V} {k : IntKind} (h0 : 0 ≤ i) (h1 : i < 32) : indexA cfg 22 (.agg cs) (.i k i) = cs[i.toNat]? := ixv (m := 32) sh22 sz5 ag5 h0 h1
theorem eq22 {x y : Operand} {us vs : List V} (hu : us.map V.fk = (List.replicate 32 (.i .u8) : List Fk).map some) (hv : vs.map V.fk = (List.replicate 32 (.i .u8) : List Fk).map some) : binA cfg .eql 22 x y (.agg us) (.agg vs) = some (.b (eqB us vs)) := (binA_flat fk22 ag22 (by kernel_rfl) hu hv).1
theorem ne22 {x y : Operand} {us vs : List V} (hu : us.map V.fk = (List.replicate 32 (.i .u8) : List Fk).map some) (hv : vs.map V.fk = (List.replicate 32 (.i .u8) : List Fk).map some) : binA cfg .neq 22 x y (.agg us) (.agg vs) = some (.b (!eqB us vs)) := (binA_flat fk22 ag22 (by kernel_rfl) hu hv).2
theorem lda22 {σ : List O} {r o : Nat} {st : List Nat} : loadA cfg 22 σ (.ptr r st o) = (rowAt σ r st).bind fun cs => (take? cs o 32).map V.agg := load_agg ag22 sz22 (by decide)
theorem sta22 {σ : List O} {r o : Nat} {st : List Nat} {us : List V} (hl : us.length = 32) (ho : us.all V.one = true) : storeA cfg 22 σ (.ptr r st o) (.agg us) = (rowAt σ r st).bind fun cs => if o + 32 ≤ cs.length then some (σ.set r (.cells st (splice cs o us))) else none := store_agg sz22 hl ho
theorem bd22 {parts : List (Nat × V)} : buildA cfg 22 parts = (partsAt (fun i => some (i * 1, 1)) parts).bind fun l => (fillA [(.i .u8 0), (.i .u8 0), (.i .u8 0), (.i .u8 0), (.i .u8 0), (.i .u8 0), (.i .u8 0), (.i .u8 0), (.i .u8 0), (.i .u8 0), (.i .u8 0), (.i .u8 0), (.i .u8 0), (.i .u8 0), (.i .u8 0), (.i .u8 0), (.i .u8 0), (.i .u8 0), (.i .u8 0), (.i .u8 0), (.i .u8 0), (.i .u8 0), (.i .u8 0), (.i .u8 0), (.i .u8 0), (.i .u8 0), (.i .u8 0), (.i .u8 0), (.i .u8 0), (.i .u8 0), (.i .u8 0), (.i .u8 0)] l).map V.agg := build_array sh22 sz5 ze22
theorem eq24 {x y : Operand} {us vs : List V} (hu : us.map V.fk = ([(.i .i64), (.i .i64)] ++ List.replicate 32 (.i .u8) : List Fk).map some) (hv : vs.map V.fk = ([(.i .i64), (.i .i64)] ++ List.replicate 32 (.i .u8) : List Fk).map some) : binA cfg .eql 24 x y (.agg us) (.agg vs) = some (.b (eqB us vs)) := (binA_flat fk24 ag24 (by kernel_rfl) hu hv).1
theorem ne24 {x y : Operand} {us vs : List V} (hu : us.map V.fk = ([(.i .i64), (.i .i64)] ++ List.replicate 32 (.i .u8) : List Fk).map some) (hv : vs.map V.fk = ([(.i .i64), (.i .i64)] ++ List.replicate 32 (.i .u8) : List Fk).map some) : binA cfg .neq 24 x y (.agg us) (.agg vs) = some (.b (!eqB us vs)) := (binA_flat fk24 ag24 (by kernel_rfl) hu hv).2
theorem lda24 {σ : List O} {r o : Nat} {st : List Nat} : loadA cfg 24 σ (.ptr r st o) = (rowAt σ r st).bind fun cs => (take? cs o 34).map V.agg := load_agg ag24 sz24 (by decide)
theorem sta24 {σ : List O} {r o : Nat} {st : List Nat} {us : List V} (hl : us.length = 34) (ho : us.all V.one = true) : storeA cfg 24 σ (.ptr r st o) (.agg us) = (rowAt σ r st).bind fun cs => if o + 34 ≤ cs.length then some (σ.set r (.cells st (splice cs o us))) else none := store_agg sz24 hl ho
theorem bd24 {parts : List (Nat × V)} : buildA cfg 24 parts = (partsAt (fun i => ([(0, 1), (1, 1), (2, 32)] : List (Nat × Nat))[i]?) parts).bind fun l => (fillA [(.i .i64 0), (.i .i64 0), (.i .u8 0), (.i .u8 0), (.i .u8 0), (.i .u8 0), (.i .u8 0), (.i .u8 0), (.i .u8 0), (.i .u8 0), (.i .u8 0), (.i .u8 0), (.i .u8 0), (.i .u8 0), (.i .u8 0), (.i .u8 0), (.i .u8 0), (.i .u8 0), (.i .u8 0), (.i .u8 0), (.i .u8 0), (.i .u8 0), (.i .u8 0), (.i .u8 0), (.i .u8 0), (.i .u8 0), (.i .u8 0), (.i .u8 0), (.i .u8 0), (.i .u8 0), (.i .u8 0), (.i .u8 0), (.i .u8 0), (.i .u8 0)] l).map V.agg := build_struct sh24 pl24 ze24
theorem fi24x0 : cfg.field 24 0 = some (0, 3) := by kernel_rfl
theorem fi24x1 : cfg.field 24 1 = some (1, 3) := by kernel_rfl
theorem fi24x2 : cfg.field 24 2 = some (2, 22) := by kernel_rfl
theorem eq26 {x y : Operand} {us vs : List V} (hu : us.map V.fk = ([(.i .i64), (.i .i64)] ++ List.replicate 32 (.i .u8) ++ [(.i .i64), (.i .i64)] : List Fk).map some) (hv : vs.map V.fk = ([(.i .i64), (.i .i64)] ++ List.replicate 32 (.i .u8) ++ [(.i .i64), (.i .i64)] : List Fk).map some) : binA cfg .eql 26 x y (.agg us) (.agg vs) = some (.b (eqB us vs)) := (binA_flat fk26 ag26 (by kernel_rfl) hu hv).1
theorem ne26 {x y : Operand} {us vs : List V} (hu : us.map V.fk = ([(.i .i64), (.i .i64)] ++ List.replicate 32 (.i .u8) ++ [(.i .i64), (.i .i64)] : List Fk).map some) (hv : vs.map V.fk = ([(.i .i64), (.i .i64)] ++ List.replicate 32 (.i .u8) ++ [(.i .i64), (.i .i64)] : List Fk).map some) : binA cfg .neq 26 x y (.agg us) (.agg vs) = some (.b (!eqB us vs)) := (binA_flat fk26 ag26 (by kernel_rfl) hu hv).2
theorem lda26 {σ : List O} {r o : Nat} {st : List Nat} : loadA cfg 26 σ (.ptr r st o) = (rowAt σ r st).bind fun cs => (take? cs o 36).map V.agg := load_agg ag26 sz26 (by decide)
theorem sta26 {σ : List O} {r o : Nat} {st : List Nat} {us : List V} (hl : us.length = 36) (ho : us.all V.one = true) : storeA cfg 26 σ (.ptr r st o) (.agg us) = (rowAt σ r st).bind fun cs => if o + 36 ≤ cs.length then some (σ.set r (.cells st (splice cs o us))) else none := store_agg sz26 hl ho
theorem bd26 {parts : List (Nat × V)} : buildA cfg 26 parts = (partsAt (fun i => ([(0, 34), (34, 1), (35, 1)] : List (Nat × Nat))[i]?) parts).bind fun l => (fillA [(.i .i64 0), (.i .i64 0), (.i .u8 0), (.i .u8 0), (.i .u8 0), (.i .u8 0), (.i .u8 0), (.i .u8 0), (.i .u8 0), (.i .u8 0), (.i .u8 0), (.i .u8 0), (.i .u8 0), (.i .u8 0), (.i .u8 0), (.i .u8 0), (.i .u8 0), (.i .u8 0), (.i .u8 0), (.i .u8 0), (.i .u8 0), (.i .u8 0), (.i .u8 0), (.i .u8 0), (.i .u8 0), (.i .u8 0), (.i .u8 0), (.i .u8 0), (.i .u8 0), (.i .u8 0), (.i .u8 0), (.i .u8 0), (.i .u8 0), (.i .u8 0), (.i .i64 0), (.i .i64 0)] l).map V.agg := build_struct sh26 pl26 ze26
theorem fi26x0 : cfg.field 26 0 = some (0, 24) := by kernel_rfl
theorem fi26x1 : cfg.field 26 1 = some (34, 3) := by kernel_rfl
theorem fi26x2 : cfg.field 26 2 = some (35, 3) := by kernel_rfl
theorem ld31 {σ : List O} {r o : Nat} {st : List Nat} : loadA cfg 31 σ (.ptr r st o) = (rowAt σ r st).bind fun cs => cs[o]? := load_sc ag31
theorem li31 {σ : List O} {cs : List V} : loadA cfg 31 σ (.iptr cs) = cs[0]? := load_ip ag31
theorem sto31 {σ : List O} {r o : Nat} {st : List Nat} {v : V} (hv : v.one = true) : storeA cfg 31 σ (.ptr r st o) v = (rowAt σ r st).bind fun cs => if o < cs.length then some (σ.set r (.cells st (cs.set o v))) else none := store_sc sz31 hv
theorem ixi31 {r o n : Nat} {i : Int} {st : List Nat} {cap : Option Nat} {k : IntKind} (h0 : 0 ≤ i) (h1 : i < n) : indexAddrA cfg 31 (.sl r st o n 130 cap) (.i k i) = some (.ptr r st (o + i.toNat * 130)) := ixi sh31 sz148 h0 h1
theorem iai31 {n : Nat} {i : Int} {cs : List V} {cl : Bool} {k : IntKind} (h0 : 0 ≤ i) (h1 : i < n) : indexAddrA cfg 31 (.arr cs n cl) (.i k i) = some (.iptr (cs.drop (i.toNat * 130))) := iai sh31 sz148 h0 h1
theorem le31 {σ : List O} {r o n es : Nat} {st : List Nat} {cap : Option Nat} : lenA cfg 31 σ (.sl r st o n es cap) = some (.i .i64 n) := len_sl sh31
theorem lr31 {σ : List O} {n : Nat} {cs : List V} {cl : Bool} : lenA cfg 31 σ (.arr cs n cl) = some (.i .i64 n) := len_arr sh31
theorem ln31 {σ : List O} : lenA cfg 31 σ .nils = some (.i .i64 0) := len_nils sh31
theorem ld32 {σ : List O} {r o : Nat} {st : List Nat} : loadA cfg 32 σ (.ptr r st o) = (rowAt σ r st).bind fun cs => cs[o]? := load_sc ag32
theorem li32 {σ : List O} {cs : List V} : loadA cfg 32 σ (.iptr cs) = cs[0]? := load_ip ag32
theorem sto32 {σ : List O} {r o : Nat} {st : List Nat} {v : V} (hv : v.one = true) : storeA cfg 32 σ (.ptr r st o) v = (rowAt σ r st).bind fun cs => if o < cs.length then some (σ.set r (.cells st (cs.set o v))) else none := store_sc sz32 hv
theorem ixi32 {r o n : Nat} {i : Int} {st : List Nat} {cap : Option Nat} {k : IntKind} (h0 : 0 ≤ i) (h1 : i < n) : indexAddrA cfg 32 (.sl r st o n 129 cap) (.i k i) = some (.ptr r st (o + i.toNat * 129)) := ixi sh32 sz132 h0 h1
theorem iai32 {n : Nat} {i : Int} {cs : List V} {cl : Bool} {k : IntKind} (h0 : 0 ≤ i) (h1 : i < n) : indexAddrA cfg 32 (.arr cs n cl) (.i k i) = some (.iptr (cs.drop (i.toNat * 129))) := iai sh32 sz132 h0 h1
theorem le32 {σ : List O} {r o n es : Nat} {st : List Nat} {cap : Option Nat} : lenA cfg 32 σ (.sl r st o n es cap) = some (.i .i64 n) := len_sl sh32
theorem lr32 {σ : List O} {n : Nat} {cs : List V} {cl : Bool} : lenA cfg 32 σ (.arr cs n cl) = some (.i .i64 n) := len_arr sh32
theorem ln32 {σ : List O} : lenA cfg 32 σ .nils = some (.i .i64 0) := len_nils sh32
theorem lda34 {σ : List O} {r o : Nat} {st : List Nat} : loadA cfg 34 σ (.ptr r st o) = (rowAt σ r st).bind fun cs => (take? cs o 4).map V.agg := load_agg ag34 sz34 (by decide)
theorem sta34 {σ : List O} {r o : Nat} {st : List Nat} {us : List V} (hl : us.length = 4) (ho : us.all V.one = true) : storeA cfg 34 σ (.ptr r st o) (.agg us) = (rowAt σ r st).bind fun cs => if o + 4 ≤ cs.length then some (σ.set r (.cells st (splice cs o us))) else none := store_agg sz34 hl ho
theorem bd34 {parts : List (Nat × V)} : buildA cfg 34 parts = (partsAt (fun i => ([(0, 1), (1, 1), (2, 1), (3, 1)] : List (Nat × Nat))[i]?) parts).bind fun l => (fillA [.nils, .nils, (.i .i64 0), (.b false)] l).map V.agg := build_struct sh34 pl34 ze34
theorem fi34x0 : cfg.field 34 0 = some (0, 31) := by kernel_rfl
theorem fi34x1 : cfg.field 34 1 = some (1, 32) := by kernel_rfl
theorem fi34x2 : cfg.field 34 2 = some (2, 3) := by kernel_rfl
theorem fi34x3 : cfg.field 34 3 = some (3, 4) := by kernel_rfl
theorem ld35 {σ : List O} {r o : Nat} {st : List Nat} : loadA cfg 35 σ (.ptr r st o) = (rowAt σ r st).bind fun cs => cs[o]? := load_sc ag35
theorem li35 {σ : List O} {cs : List V} : loadA cfg 35 σ (.iptr cs) = cs[0]? := load_ip ag35
theorem sto35 {σ : List O} {r o : Nat} {st : List Nat} {v : V} (hv : v.one = true) : storeA cfg 35 σ (.ptr r st o) v = (rowAt σ r st).bind fun cs => if o < cs.length then some (σ.set r (.cells st (cs.set o v))) else none := store_sc sz35 hv
theorem ixi35 {r o n : Nat} {i : Int} {st : List Nat} {cap : Option Nat} {k : IntKind} (h0 : 0 ≤ i) (h1 : i < n) : indexAddrA cfg 35 (.sl r st o n 2 cap) (.i k i) = some (.ptr r st (o + i.toNat * 2)) := ixi sh35 sz134 h0 h1
theorem iai35 {n : Nat} {i : Int} {cs : List V} {cl : Bool} {k : IntKind} (h0 : 0 ≤ i) (h1 : i < n) : indexAddrA cfg 35 (.arr cs n cl) (.i k i) = some (.iptr (cs.drop (i.toNat * 2))) := iai sh35 sz134 h0 h1
theorem le35 {σ : List O} {r o n es : Nat} {st : List Nat} {cap : Option Nat} : lenA cfg 35 σ (.sl r st o n es cap) = some (.i .i64 n) := len_sl sh35
theorem lr35 {σ : List O} {n : Nat} {cs : List V} {cl : Bool} : lenA cfg 35 σ (.arr cs n cl) = some (.i .i64 n) := len_arr sh35
theorem ln35 {σ : List O} : lenA cfg 35 σ .nils = some (.i .i64 0) := len_nils sh35
theorem lda37 {σ : List O} {r o : Nat} {st : List Nat} : loadA cfg 37 σ (.ptr r st o) = (rowAt σ r st).bind fun cs => (take? cs o 2).map V.agg := load_agg ag37 sz37 (by decide)
theorem sta37 {σ : List O} {r o : Nat} {st : List Nat} {us : List V} (hl : us.length = 2) (ho : us.all V.one = true) : storeA cfg 37 σ (.ptr r st o) (.agg us) = (rowAt σ r st).bind fun cs => if o + 2 ≤ cs.length then some (σ.set r (.cells st (splice cs o us))) else none := store_agg sz37 hl ho
theorem bd37 {parts : List (Nat × V)} : buildA cfg 37 parts = (partsAt (fun i => ([(0, 1), (1, 1)] : List (Nat × Nat))[i]?) parts).bind fun l => (fillA [(.i .i64 0), .nils] l).map V.agg := build_struct sh37 pl37 ze37
theorem fi37x0 : cfg.field 37 0 = some (0, 3) := by kernel_rfl
theorem fi37x1 : cfg.field 37 1 = some (1, 35) := by kernel_rfl
theorem ipi38 {r o : Nat} {i : Int} {st : List Nat} {k : IntKind} (h0 : 0 ≤ i) (h1 : i < 2) : indexAddrA cfg 38 (.ptr r st o) (.i k i) = some (.ptr r st (o + i.toNat * 1)) := ipi (m := 2) sh38 sz3 h0 h1
theorem ixv38 {i : Int} {cs : List V} {k : IntKind} (h0 : 0 ≤ i) (h1 : i < 2) : indexA cfg 38 (.agg cs) (.i k i) = cs[i.toNat]? := ixv (m := 2) sh38 sz3 ag3 h0 h1
theorem eq38 {x y : Operand} {us vs : List V} (hu : us.map V.fk = ([(.i .i64), (.i .i64)] : List Fk).map some) (hv : vs.map V.fk = ([(.i .i64), (.i .i64)] : List Fk).map some) : binA cfg .eql 38 x y (.agg us) (.agg vs) = some (.b (eqB us vs)) := (binA_flat fk38 ag38 (by kernel_rfl) hu hv).1
theorem ne38 {x y : Operand} {us vs : List V} (hu : us.map V.fk = ([(.i .i64), (.i .i64)] : List Fk).map some) (hv : vs.map V.fk = ([(.i .i64), (.i .i64)] : List Fk).map some) : binA cfg .neq 38 x y (.agg us) (.agg vs) = some (.b (!eqB us vs)) := (binA_flat fk38 ag38 (by kernel_rfl) hu hv).2
theorem lda38 {σ : List O} {r o : Nat} {st : List Nat} : loadA cfg 38 σ (.ptr r st o) = (rowAt σ r st).bind fun cs => (take? cs o 2).map V.agg := load_agg ag38 sz38 (by decide)
theorem sta38 {σ : List O} {r o : Nat} {st : List Nat} {us : List V} (hl : us.length = 2) (ho : us.all V.one = true) : storeA cfg 38 σ (.ptr r st o) (.agg us) = (rowAt σ r st).bind fun cs => if o + 2 ≤ cs.length then some (σ.set r (.cells st (splice cs o us))) else none := store_agg sz38 hl ho
theorem bd38 {parts : List (Nat × V)} : buildA cfg 38 parts = (partsAt (fun i => some (i * 1, 1)) parts).bind fun l => (fillA [(.i .i64 0), (.i .i64 0)] l).map V.agg := build_array sh38 sz3 ze38
theorem ld39 {σ : List O} {r o : Nat} {st : List Nat} : loadA cfg 39 σ (.ptr r st o) = (rowAt σ r st).bind fun cs => cs[o]? := load_sc ag39
theorem li39 {σ : List O} {cs : List V} : loadA cfg 39 σ (.iptr cs) = cs[0]? := load_ip ag39
theorem sto39 {σ : List O} {r o : Nat} {st : List Nat} {v : V} (hv : v.one = true) : storeA cfg 39 σ (.ptr r st o) v = (rowAt σ r st).bind fun cs => if o < cs.length then some (σ.set r (.cells st (cs.set o v))) else none := store_sc sz39 hv
theorem ix39 {r o n j : Nat} {st : List Nat} {cap : Option Nat} {k : IntKind} (h : j < n) : indexAddrA cfg 39 (.sl r st o n 1 cap) (.i k j) = some (.ptr r st (o + j)) := idx_sl sh39 sz5 h
theorem ia39 {n j : Nat} {cs : List V} {cl : Bool} {k : IntKind} (h : j < n) : indexAddrA cfg 39 (.arr cs n cl) (.i k j) = some (.iptr (cs.drop j)) := idx_arr sh39 sz5 h
theorem mk39 {σ : List O} {st : List Nat} {n : Nat} (h : n ≤ 1000000000000) : makeSliceA cfg 39 (.i .i64 n) (.i .i64 n) σ st = some (.sl σ.length st 0 n 1 (some n), σ ++ [.cells st (List.replicate n (.i .u8 0))]) := make_sc el39 by5 (by omega) (by omega) rfl
theorem ixi39 {r o n : Nat} {i : Int} {st : List Nat} {cap : Option Nat} {k : IntKind} (h0 : 0 ≤ i) (h1 : i < n) : indexAddrA cfg 39 (.sl r st o n 1 cap) (.i k i) = some (.ptr r st (o + i.toNat * 1)) := ixi sh39 sz5 h0 h1
theorem iai39 {n : Nat} {i : Int} {cs : List V} {cl : Bool} {k : IntKind} (h0 : 0 ≤ i) (h1 : i < n) : indexAddrA cfg 39 (.arr cs n cl) (.i k i) = some (.iptr (cs.drop (i.toNat * 1))) := iai sh39 sz5 h0 h1
theorem le39 {σ : List O} {r o n es : Nat} {st : List Nat} {cap : Option Nat} : lenA cfg 39 σ (.sl r st o n es cap) = some (.i .i64 n) := len_sl sh39
theorem lr39 {σ : List O} {n : Nat} {cs : List V} {cl : Bool} : lenA cfg 39 σ (.arr cs n cl) = some (.i .i64 n) := len_arr sh39
theorem ln39 {σ : List O} : lenA cfg 39 σ .nils = some (.i .i64 0) := len_nils sh39
theorem lda41 {σ : List O} {r o : Nat} {st : List Nat} : loadA cfg 41 σ (.ptr r st o) = (rowAt σ r st).bind fun cs => (take? cs o 4).map V.agg := load_agg ag41 sz41 (by decide)
theorem sta41 {σ : List O} {r o : Nat} {st : List Nat} {us : List V} (hl : us.length = 4) (ho : us.all V.one = true) : storeA cfg 41 σ (.ptr r st o) (.agg us) = (rowAt σ r st).bind fun cs => if o + 4 ≤ cs.length then some (σ.set r (.cells st (splice cs o us))) else none := store_agg sz41 hl ho
theorem bd41 {parts : List (Nat × V)} : buildA cfg 41 parts = (partsAt (fun i => ([(0, 2), (2, 1), (3, 1)] : List (Nat × Nat))[i]?) parts).bind fun l => (fillA [(.i .i64 0), (.i .i64 0), (.i .i64 0), .nils] l).map V.agg := build_struct sh41 pl41 ze41
theorem fi41x0 : cfg.field 41 0 = some (0, 38) := by kernel_rfl
theorem fi41x1 : cfg.field 41 1 = some (2, 3) := by kernel_rfl
theorem fi41x2 : cfg.field 41 2 = some (3, 39) := by kernel_rfl
theorem lda43 {σ : List O} {r o : Nat} {st : List Nat} : loadA cfg 43 σ (.ptr r st o) = (rowAt σ r st).bind fun cs => (take? cs o 10).map V.agg := load_agg ag43 sz43 (by decide)
theorem sta43 {σ : List O} {r o : Nat} {st : List Nat} {us : List V} (hl : us.length = 10) (ho : us.all V.one = true) : storeA cfg 43 σ (.ptr r st o) (.agg us) = (rowAt σ r st).bind fun cs => if o + 10 ≤ cs.length then some (σ.set r (.cells st (splice cs o us))) else none := store_agg sz43 hl ho
theorem bd43 {parts : List (Nat × V)} : buildA cfg 43 parts = (partsAt (fun i => ([(0, 4), (4, 2), (6, 4)] : List (Nat × Nat))[i]?) parts).bind fun l => (fillA [.nils, .nils, (.i .i64 0), (.b false), (.i .i64 0), .nils, (.i .i64 0), (.i .i64 0), (.i .i64 0), .nils] l).map V.agg := build_struct sh43 pl43 ze43
theorem fi43x0 : cfg.field 43 0 = some (0, 34) := by kernel_rfl
theorem fi43x1 : cfg.field 43 1 = some (4, 37) := by kernel_rfl
theorem fi43x2 : cfg.field 43 2 = some (6, 41) := by kernel_rfl
theorem ipi47 {r o : Nat} {i : Int} {st : List Nat} {k : IntKind} (h0 : 0 ≤ i) (h1 : i < 128) : indexAddrA cfg 47 (.ptr r st o) (.i k i) = some (.ptr r st (o + i.toNat * 1)) := ipi (m := 128) sh47 sz5 h0 h1
theorem ixv47 {i : Int} {cs : List V} {k : IntKind} (h0 : 0 ≤ i) (h1 : i < 128) : indexA cfg 47 (.agg cs) (.i k i) = cs[i.toNat]? := ixv (m := 128) sh47 sz5 ag5 h0 h1
theorem eq47 {x y : Operand} {us vs : List V} (hu : us.map V.fk = (List.replicate 128 (.i .u8) : List Fk).map some) (hv : vs.map V.fk = (List.replicate 128 (.i .u8) : List Fk).map some) : binA cfg .eql 47 x y (.agg us) (.agg vs) = some (.b (eqB us vs)) := (binA_flat fk47 ag47 (by kernel_rfl) hu hv).1
theorem ne47 {x y : Operand} {us vs : List V} (hu : us.map V.fk = (List.replicate 128 (.i .u8) : List Fk).map some) (hv : vs.map V.fk = (List.replicate 128 (.i .u8) : List Fk).map some) : binA cfg .neq 47 x y (.agg us) (.agg vs) = some (.b (!eqB us vs)) := (binA_flat fk47 ag47 (by kernel_rfl) hu hv).2
theorem lda47 {σ : List O} {r o : Nat} {st : List Nat} : loadA cfg 47 σ (.ptr r st o) = (rowAt σ r st).bind fun cs => (take? cs o 128).map V.agg := load_agg ag47 sz47 (by decide)
theorem sta47 {σ : List O} {r o : Nat} {st : List Nat} {us : List V} (hl : us.length = 128) (ho : us.all V.one = true) : storeA cfg 47 σ (.ptr r st o) (.agg us) = (rowAt σ r st).bind fun cs => if o + 128 ≤ cs.length then some (σ.set r (.cells st (splice cs o us))) else none := store_agg sz47 hl ho
theorem bd47 {parts : List (Nat × V)} : buildA cfg 47 parts = (partsAt (fun i => some (i * 1, 1)) parts).bind fun l => (fillA [(.i .u8 0), (.i .u8 0), (.i .u8 0), (.i .u8 0), (.i .u8 0), (.i .u8 0), (.i .u8 0), (.i .u8 0), (.i .u8 0), (.i .u8 0), (.i .u8 0), (.i .u8 0), (.i .u8 0), (.i .u8 0), (.i .u8 0), (.i .u8 0), (.i .u8 0), (.i .u8 0), (.i .u8 0), (.i .u8 0), (.i .u8 0), (.i .u8 0), (.i .u8 0), (.i .u8 0), (.i .u8 0), (.i .u8 0), (.i .u8 0), (.i .u8 0), (.i .u8 0), (.i .u8 0), (.i .u8 0), (.i .u8 0), (.i .u8 0), (.i .u8 0), (.i .u8 0), (.i .u8 0), (.i .u8 0), (.i .u8 0), (.i .u8 0), (.i .u8 0), (.i .u8 0), (.i .u8 0), (.i .u8 0), (.i .u8 0), (.i .u8 0), (.i .u8 0), (.i .u8 0), (.i .u8 0), (.i .u8 0), (.i .u8 0), (.i .u8 0), (.i .u8 0), (.i .u8 0), (.i .u8 0), (.i .u8 0), (.i .u8 0), (.i .u8 0), (.i .u8 0), (.i .u8 0), (.i .u8 0), (.i .u8 0), (.i .u8 0), (.i .u8 0), (.i .u8 0), (.i .u8 0), (.i .u8 0), (.i .u8 0), (.i .u8 0), (.i .u8 0), (.i .u8 0), (.i .u8 0), (.i .u8 0), (.i .u8 0), (.i .u8 0), (.i .u8 0), (.i .u8 0), (.i .u8 0), (.i .u8 0), (.i .u8 0), (.i .u8 0), (.i .u8 0), (.i .u8 0), (.i .u8 0), (.i .u8 0), (.i .u8 0), (.i .u8 0), (.i .u8 0), (.i .u8 0), (.i .u8 0), (.i .u8 0), (.i .u8 0), (.i .u8 0), (.i .u8 0), (.i .u8 0), (.i .u8 0), (.i .u8 0), (.i .u8 0), (.i .u8 0), (.i .u8 0), (.i .u8 0), (.i .u8 0), (.i .u8 0), (.i .u8 0), (.i .u8 0), (.i .u8 0), (.i .u8 0), (.i .u8 0), (.i .u8 0), (.i .u8 0), (.i .u8 0), (.i .u8 0), (.i .u8 0), (.i .u8 0), (.i .u8 0), (.i .u8 0), (.i .u8 0), (.i .u8 0), (.i .u8 0), (.i .u8 0), (.i .u8 0), (.i .u8 0), (.i .u8 0), (.i .u8 0), (.i .u8 0), (.i .u8 0), (.i .u8 0), (.i .u8 0), (.i .u8 0)] l).map V.agg := build_array sh47 sz5 ze47
theorem ld48 {σ : List O} {r o : Nat} {st : List Nat} : loadA cfg 48 σ (.ptr r st o) = (rowAt σ r st).bind fun cs => cs[o]? := load_sc ag48
theorem li48 {σ : List O} {cs : List V} : loadA cfg 48 σ (.iptr cs) = cs[0]? := load_ip ag48
theorem sto48 {σ : List O} {r o : Nat} {st : List Nat} {v : V} (hv : v.one = true) : storeA cfg 48 σ (.ptr r st o) v = (rowAt σ r st).bind fun cs => if o < cs.length then some (σ.set r (.cells st (cs.set o v))) else none := store_sc sz48 hv
theorem ipi120 {r o : Nat} {i : Int} {st : List Nat} {k : IntKind} (h0 : 0 ≤ i) (h1 : i < 64) : indexAddrA cfg 120 (.ptr r st o) (.i k i) = some (.ptr r st (o + i.toNat * 1)) := ipi (m := 64) sh120 sz5 h0 h1
theorem ixv120 {i : Int} {cs : List V} {k : IntKind} (h0 : 0 ≤ i) (h1 : i < 64) : indexA cfg 120 (.agg cs) (.i k i) = cs[i.toNat]? := ixv (m := 64) sh120 sz5 ag5 h0 h1
theorem eq120 {x y : Operand} {us vs : List V} (hu : us.map V.fk = (List.replicate 64 (.i .u8) : List Fk).map some) (hv : vs.map V.fk = (List.replicate 64 (.i .u8) : List Fk).map some) : binA cfg .eql 120 x y (.agg us) (.agg vs) = some (.b (eqB us vs)) := (binA_flat fk120 ag120 (by kernel_rfl) hu hv).1
theorem ne120 {x y : Operand} {us vs : List V} (hu : us.map V.fk = (List.replicate 64 (.i .u8) : List Fk).map some) (hv : vs.map V.fk = (List.replicate 64 (.i .u8) : List Fk).map some) : binA cfg .neq 120 x y (.agg us) (.agg vs) = some (.b (!eqB us vs)) := (binA_flat fk120 ag120 (by kernel_rfl) hu hv).2
theorem lda120 {σ : List O} {r o : Nat} {st : List Nat} : loadA cfg 120 σ (.ptr r st o) = (rowAt σ r st).bind fun cs => (take? cs o 64).map V.agg := load_agg ag120 sz120 (by decide)
theorem sta120 {σ : List O} {r o : Nat} {st : List Nat} {us : List V} (hl : us.length = 64) (ho : us.all V.one = true) : storeA cfg 120 σ (.ptr r st o) (.agg us) = (rowAt σ r st).bind fun cs => if o + 64 ≤ cs.length then some (σ.set r (.cells st (splice cs o us))) else none := store_agg sz120 hl ho
theorem bd120 {parts : List (Nat × V)} : buildA cfg 120 parts = (partsAt (fun i => some (i * 1, 1)) parts).bind fun l => (fillA [(.i .u8 0), (.i .u8 0), (.i .u8 0), (.i .u8 0), (.i .u8 0), (.i .u8 0), (.i .u8 0), (.i .u8 0), (.i .u8 0), (.i .u8 0), (.i .u8 0), (.i .u8 0), (.i .u8 0), (.i .u8 0), (.i .u8 0), (.i .u8 0), (.i .u8 0), (.i .u8 0), (.i .u8 0), (.i .u8 0), (.i .u8 0), (.i .u8 0), (.i .u8 0), (.i .u8 0), (.i .u8 0), (.i .u8 0), (.i .u8 0), (.i .u8 0), (.i .u8 0), (.i .u8 0), (.i .u8 0), (.i .u8 0), (.i .u8 0), (.i .u8 0), (.i .u8 0), (.i .u8 0), (.i .u8 0), (.i .u8 0), (.i .u8 0), (.i .u8 0), (.i .u8 0), (.i .u8 0), (.i .u8 0), (.i .u8 0), (.i .u8 0), (.i .u8 0), (.i .u8 0), (.i .u8 0), (.i .u8 0), (.i .u8 0), (.i .u8 0), (.i .u8 0), (.i .u8 0), (.i .u8 0), (.i .u8 0), (.i .u8 0), (.i .u8 0), (.i .u8 0), (.i .u8 0), (.i .u8 0), (.i .u8 0), (.i .u8 0), (.i .u8 0), (.i .u8 0)] l).map V.agg := build_array sh120 sz5 ze120
theorem eq132 {x y : Operand} {us vs : List V} (hu : us.map V.fk = ([(.i .i64)] ++ List.replicate 128 (.i .u8) : List Fk).map some) (hv : vs.map V.fk = ([(.i .i64)] ++ List.replicate 128 (.i .u8) : List Fk).map some) : binA cfg .eql 132 x y (.agg us) (.agg vs) = some (.b (eqB us vs)) := (binA_flat fk132 ag132 (by kernel_rfl) hu hv).1
theorem ne132 {x y : Operand} {us vs : List V} (hu : us.map V.fk = ([(.i .i64)] ++ List.replicate 128 (.i .u8) : List Fk).map some) (hv : vs.map V.fk = ([(.i .i64)] ++ List.replicate 128 (.i .u8) : List Fk).map some) : binA cfg .neq 132 x y (.agg us) (.agg vs) = some (.b (!eqB us vs)) := (binA_flat fk132 ag132 (by kernel_rfl) hu hv).2
theorem lda132 {σ : List O} {r o : Nat} {st : List Nat} : loadA cfg 132 σ (.ptr r st o) = (rowAt σ r st).bind fun cs => (take? cs o 129).map V.agg := load_agg ag132 sz132 (by decide)
theorem sta132 {σ : List O} {r o : Nat} {st : List Nat} {us : List V} (hl : us.length = 129) (ho : us.all V.one = true) : storeA cfg 132 σ (.ptr r st o) (.agg us) = (rowAt σ r st).bind fun cs => if o + 129 ≤ cs.length then some (σ.set r (.cells st (splice cs o us))) else none := store_agg sz132 hl ho
theorem bd132 {parts : List (Nat × V)} : buildA cfg 132 parts = (partsAt (fun i => ([(0, 1), (1, 128)] : List (Nat × Nat))[i]?) parts).bind fun l => (fillA [(.i .i64 0), (.i .u8 0), (.i .u8 0), (.i .u8 0), (.i .u8 0), (.i .u8 0), (.i .u8 0), (.i .u8 0), (.i .u8 0), (.i .u8 0), (.i .u8 0), (.i .u8 0), (.i .u8 0), (.i .u8 0), (.i .u8 0), (.i .u8 0), (.i .u8 0), (.i .u8 0), (.i .u8 0), (.i .u8 0), (.i .u8 0), (.i .u8 0), (.i .u8 0), (.i .u8 0), (.i .u8 0), (.i .u8 0), (.i .u8 0), (.i .u8 0), (.i .u8 0), (.i .u8 0), (.i .u8 0), (.i .u8 0), (.i .u8 0), (.i .u8 0), (.i .u8 0), (.i .u8 0), (.i .u8 0), (.i .u8 0), (.i .u8 0), (.i .u8 0), (.i .u8 0), (.i .u8 0), (.i .u8 0), (.i .u8 0), (.i .u8 0), (.i .u8 0), (.i .u8 0), (.i .u8 0), (.i .u8 0), (.i .u8 0), (.i .u8 0), (.i .u8 0), (.i .u8 0), (.i .u8 0), (.i .u8 0), (.i .u8 0), (.i .u8 0), (.i .u8 0), (.i .u8 0), (.i .u8 0), (.i .u8 0), (.i .u8 0), (.i .u8 0), (.i .u8 0), (.i .u8 0), (.i .u8 0), (.i .u8 0), (.i .u8 0), (.i .u8 0), (.i .u8 0), (.i .u8 0), (.i .u8 0), (.i .u8 0), (.i .u8 0), (.i .u8 0), (.i .u8 0), (.i .u8 0), (.i .u8 0), (.i .u8 0), (.i .u8 0), (.i .u8 0), (.i .u8 0), (.i .u8 0), (.i .u8 0), (.i .u8 0), (.i .u8 0), (.i .u8 0), (.i .u8 0), (.i .u8 0), (.i .u8 0), (.i .u8 0), (.i .u8 0), (.i .u8 0), (.i .u8 0), (.i .u8 0), (.i .u8 0), (.i .u8 0), (.i .u8 0), (.i .u8 0), (.i .u8 0), (.i .u8 0), (.i .u8 0), (.i .u8 0), (.i .u8 0), (.i .u8 0), (.i .u8 0), (.i .u8 0), (.i .u8 0), (.i .u8 0), (.i .u8 0), (.i .u8 0), (.i .u8 0), (.i .u8 0), (.i .u8 0), (.i .u8 0), (.i .u8 0), (.i .u8 0), (.i .u8 0), (.i .u8 0), (.i .u8 0), (.i .u8 0), (.i .u8 0), (.i .u8 0), (.i .u8 0), (.i .u8 0), (.i .u8 0), (.i .u8 0), (.i .u8 0), (.i .u8 0)] l).map V.agg := build_struct sh132 pl132 ze132
theorem fi132x0 : cfg.field 132 0 = some (0, 3) := by kernel_rfl
theorem fi132x1 : cfg.field 132 1 = some (1, 47) := by kernel_rfl
theorem eq148 {x y : Operand} {us vs : List V} (hu : us.map V.fk = (List.replicate 128 (.i .u8) ++ [.b, .b] : List Fk).map some) (hv : vs.map V.fk = (List.replicate 128 (.i .u8) ++ [.b, .b] : List Fk).map some) : binA cfg .eql 148 x y (.agg us) (.agg vs) = some (.b (eqB us vs)) := (binA_flat fk148 ag148 (by kernel_rfl) hu hv).1
theorem ne148 {x y : Operand} {us vs : List V} (hu : us.map V.fk = (List.replicate 128 (.i .u8) ++ [.b, .b] : List Fk).map some) (hv : vs.map V.fk = (List.replicate 128 (.i .u8) ++ [.b, .b] : List Fk).map some) : binA cfg .neq 148 x y (.agg us) (.agg vs) = some (.b (!eqB us vs)) := (binA_flat fk148 ag148 (by kernel_rfl) hu hv).2
theorem lda148 {σ : List O} {r o : Nat} {st : List Nat} : loadA cfg 148 σ (.ptr r st o) = (rowAt σ r st).bind fun cs => (take? cs o 130).map V.agg := load_agg ag148 sz148 (by decide)
theorem sta148 {σ : List O} {r o : Nat} {st : List Nat} {us : List V} (hl : us.length = 130) (ho : us.all V.one = true) : storeA cfg 148 σ (.ptr r st o) (.agg us) = (rowAt σ r st).bind fun cs => if o + 130 ≤ cs.length then some (σ.set r (.cells st (splice cs o us))) else none := store_agg sz148 hl ho
theorem bd148 {parts : List (Nat × V)} : buildA cfg 148 parts = (partsAt (fun i => ([(0, 128), (128, 1), (129, 1)] : List (Nat × Nat))[i]?) parts).bind fun l => (fillA [(.i .u8 0), (.i .u8 0), (.i .u8 0), (.i .u8 0), (.i .u8 0), (.i .u8 0), (.i .u8 0), (.i .u8 0), (.i .u8 0), (.i .u8 0), (.i .u8 0), (.i .u8 0), (.i .u8 0), (.i .u8 0), (.i .u8 0), (.i .u8 0), (.i .u8 0), (.i .u8 0), (.i .u8 0), (.i .u8 0), (.i .u8 0), (.i .u8 0), (.i .u8 0), (.i .u8 0), (.i .u8 0), (.i .u8 0), (.i .u8 0), (.i .u8 0), (.i .u8 0), (.i .u8 0), (.i .u8 0), (.i .u8 0), (.i .u8 0), (.i .u8 0), (.i .u8 0), (.i .u8 0), (.i .u8 0), (.i .u8 0), (.i .u8 0), (.i .u8 0), (.i .u8 0), (.i .u8 0), (.i .u8 0), (.i .u8 0), (.i .u8 0), (.i .u8 0), (.i .u8 0), (.i .u8 0), (.i .u8 0), (.i .u8 0), (.i .u8 0), (.i .u8 0), (.i .u8 0), (.i .u8 0), (.i .u8 0), (.i .u8 0), (.i .u8 0), (.i .u8 0), (.i .u8 0), (.i .u8 0), (.i .u8 0), (.i .u8 0), (.i .u8 0), (.i .u8 0), (.i .u8 0), (.i .u8 0), (.i .u8 0), (.i .u8 0), (.i .u8 0), (.i .u8 0), (.i .u8 0), (.i .u8 0), (.i .u8 0), (.i .u8 0), (.i .u8 0), (.i .u8 0), (.i .u8 0), (.i .u8 0), (.i .u8 0), (.i .u8 0), (.i .u8 0), (.i .u8 0), (.i .u8 0), (.i .u8 0), (.i .u8 0), (.i .u8 0), (.i .u8 0), (.i .u8 0), (.i .u8 0), (.i .u8 0), (.i .u8 0), (.i .u8 0), (.i .u8 0), (.i .u8 0), (.i .u8 0), (.i .u8 0), (.i .u8 0), (.i .u8 0), (.i .u8 0), (.i .u8 0), (.i .u8 0), (.i .u8 0), (.i .u8 0), (.i .u8 0), (.i .u8 0), (.i .u8 0), (.i .u8 0), (.i .u8 0), (.i .u8 0), (.i .u8 0), (.i .u8 0), (.i .u8 0), (.i .u8 0), (.i .u8 0), (.i .u8 0), (.i .u8 0), (.i .u8 0), (.i .u8 0), (.i .u8 0), (.i .u8 0), (.i .u8 0), (.i .u8 0), (.i .u8 0), (.i .u8 0), (.i .u8 0), (.i .u8 0), (.i .u8 0), (.i .u8 0), (.b false), (.b false)] l).map V.agg := build_struct sh148 pl148 ze148
theorem fi148x0 : cfg.field 148 0 = some (0, 47) := by kernel_rfl
theorem fi148x1 : cfg.field 148 1 = some (128, 4) := by kernel_rfl
theorem fi148x2 : cfg.field 148 2 = some (129, 4) := by kernel_rfl
theorem sh69 : cfg.shape 69 = .other := by kernel_rfl
theorem sz69 : cfg.size 69 = some 39 := by kernel_rfl
theorem by69 : cfg.bytes 69 = 88 := by kernel_rfl
theorem ag69 : cfg.isAgg 69 = some true := by kernel_rfl
theorem kn69 : known cfg 69 = true := by kernel_rfl
theorem ze69 : cfg.zero 69 = some (.agg [(.i .i64 0), (.i .i64 0), (.i .i64 0), (.i .i64 0), (.i .i64 0), (.i .u8 0), (.i .u8 0), (.i .u8 0), (.i .u8 0), (.i .u8 0), (.i .u8 0), (.i .u8 0), (.i .u8 0), (.i .u8 0), (.i .u8 0), (.i .u8 0), (.i .u8 0), (.i .u8 0), (.i .u8 0), (.i .u8 0), (.i .u8 0), (.i .u8 0), (.i .u8 0), (.i .u8 0), (.i .u8 0), (.i .u8 0), (.i .u8 0), (.i .u8 0), (.i .u8 0), (.i .u8 0), (.i .u8 0), (.i .u8 0), (.i .u8 0), (.i .u8 0), (.i .u8 0), (.i .u8 0), (.i .u8 0), (.i .i64 0), (.i .i64 0)]) := by kernel_rfl
theorem fk69 : flat cfg 20 69 = some (List.replicate 5 (.i .i64) ++ List.replicate 32 (.i .u8) ++ [(.i .i64), (.i .i64)] : List Fk) := by kernel_rfl
theorem pl69 : cfg.places 69 = some [(0, 1), (1, 1), (2, 1), (3, 36)] := by kernel_rfl
theorem eq69 {x y : Operand} {us vs : List V} (hu : us.map V.fk = (List.replicate 5 (.i .i64) ++ List.replicate 32 (.i .u8) ++ [(.i .i64), (.i .i64)] : List Fk).map some) (hv : vs.map V.fk = (List.replicate 5 (.i .i64) ++ List.replicate 32 (.i .u8) ++ [(.i .i64), (.i .i64)] : List Fk).map some) : binA cfg .eql 69 x y (.agg us) (.agg vs) = some (.b (eqB us vs)) := (binA_flat fk69 ag69 (by kernel_rfl) hu hv).1
theorem ne69 {x y : Operand} {us vs : List V} (hu : us.map V.fk = (List.replicate 5 (.i .i64) ++ List.replicate 32 (.i .u8) ++ [(.i .i64), (.i .i64)] : List Fk).map some) (hv : vs.map V.fk = (List.replicate 5 (.i .i64) ++ List.replicate 32 (.i .u8) ++ [(.i .i64), (.i .i64)] : List Fk).map some) : binA cfg .neq 69 x y (.agg us) (.agg vs) = some (.b (!eqB us vs)) := (binA_flat fk69 ag69 (by kernel_rfl) hu hv).2
theorem lda69 {σ : List O} {r o : Nat} {st : List Nat} : loadA cfg 69 σ (.ptr r st o) = (rowAt σ r st).bind fun cs => (take? cs o 39).map V.agg := load_agg ag69 sz69 (by decide)
theorem sta69 {σ : List O} {r o : Nat} {st : List Nat} {us : List V} (hl : us.length = 39) (ho : us.all V.one = true) : storeA cfg 69 σ (.ptr r st o) (.agg us) = (rowAt σ r st).bind fun cs => if o + 39 ≤ cs.length then some (σ.set r (.cells st (splice cs o us))) else none := store_agg sz69 hl ho
theorem bd69 {parts : List (Nat × V)} : buildA cfg 69 parts = (partsAt (fun i => ([(0, 1), (1, 1), (2, 1), (3, 36)] : List (Nat × Nat))[i]?) parts).bind fun l => (fillA [(.i .i64 0), (.i .i64 0), (.i .i64 0), (.i .i64 0), (.i .i64 0), (.i .u8 0), (.i .u8 0), (.i .u8 0), (.i .u8 0), (.i .u8 0), (.i .u8 0), (.i .u8 0), (.i .u8 0), (.i .u8 0), (.i .u8 0), (.i .u8 0), (.i .u8 0), (.i .u8 0), (.i .u8 0), (.i .u8 0), (.i .u8 0), (.i .u8 0), (.i .u8 0), (.i .u8 0), (.i .u8 0), (.i .u8 0), (.i .u8 0), (.i .u8 0), (.i .u8 0), (.i .u8 0), (.i .u8 0), (.i .u8 0), (.i .u8 0), (.i .u8 0), (.i .u8 0), (.i .u8 0), (.i .u8 0), (.i .i64 0), (.i .i64 0)] l).map V.agg := build_struct sh69 pl69 ze69
theorem fi69x0 : cfg.field 69 0 = some (0, 3) := by kernel_rfl
theorem fi69x1 : cfg.field 69 1 = some (1, 3) := by kernel_rfl
theorem fi69x2 : cfg.field 69 2 = some (2, 3) := by kernel_rfl
theorem fi69x3 : cfg.field 69 3 = some (3, 26) := by kernel_rfl
theorem Y3 : type_of% (And.intro @sh3 (And.intro @sz3 (And.intro @by3 (And.intro @ag3 (And.intro @kn3 (And.intro @ze3 (And.intro @ld3 (And.intro @li3 (@sto3))))))))) := ⟨@sh3, @sz3, @by3, @ag3, @kn3, @ze3, @ld3, @li3, @sto3⟩
theorem Y4 : type_of% (And.intro @sh4 (And.intro @sz4 (And.intro @by4 (And.intro @ag4 (And.intro @kn4 (And.intro @ze4 (And.intro @ld4 (And.intro @li4 (@sto4))))))))) := ⟨@sh4, @sz4, @by4, @ag4, @kn4, @ze4, @ld4, @li4, @sto4⟩
theorem Y5 : type_of% (And.intro @sh5 (And.intro @sz5 (And.intro @by5 (And.intro @ag5 (And.intro @kn5 (And.intro @ze5 (And.intro @ld5 (And.intro @li5 (@sto5))))))))) := ⟨@sh5, @sz5, @by5, @ag5, @kn5, @ze5, @ld5, @li5, @sto5⟩
theorem Y22 : type_of% (And.intro @sh22 (And.intro @sz22 (And.intro @by22 (And.intro @ag22 (And.intro @kn22 (And.intro @ze22 (And.intro @fk22 (And.intro @ipi22 (And.intro @ixv22 (And.intro @eq22 (And.intro @ne22 (And.intro @lda22 (And.intro @sta22 (@bd22)))))))))))))) := ⟨@sh22, @sz22, @by22, @ag22, @kn22, @ze22, @fk22, @ipi22, @ixv22, @eq22, @ne22, @lda22, @sta22, @bd22⟩
theorem Y24 : type_of% (And.intro @sh24 (And.intro @sz24 (And.intro @by24 (And.intro @ag24 (And.intro @kn24 (And.intro @ze24 (And.intro @fk24 (And.intro @pl24 (And.intro @eq24 (And.intro @ne24 (And.intro @lda24 (And.intro @sta24 (And.intro @bd24 (And.intro @fi24x0 (And.intro @fi24x1 (@fi24x2)))))))))))))))) := ⟨@sh24, @sz24, @by24, @ag24, @kn24, @ze24, @fk24, @pl24, @eq24, @ne24, @lda24, @sta24, @bd24, @fi24x0, @fi24x1, @fi24x2⟩
theorem Y26 : type_of% (And.intro @sh26 (And.intro @sz26 (And.intro @by26 (And.intro @ag26 (And.intro @kn26 (And.intro @ze26 (And.intro @fk26 (And.intro @pl26 (And.intro @eq26 (And.intro @ne26 (And.intro @lda26 (And.intro @sta26 (And.intro @bd26 (And.intro @fi26x0 (And.intro @fi26x1 (@fi26x2)))))))))))))))) := ⟨@sh26, @sz26, @by26, @ag26, @kn26, @ze26, @fk26, @pl26, @eq26, @ne26, @lda26, @sta26, @bd26, @fi26x0, @fi26x1, @fi26x2⟩
theorem Y31 : type_of% (And.intro @sh31 (And.intro @sz31 (And.intro @by31 (And.intro @ag31 (And.intro @kn31 (And.intro @el31 (And.intro @ze31 (And.intro @ld31 (And.intro @li31 (And.intro @sto31 (And.intro @ixi31 (And.intro @iai31 (And.intro @le31 (And.intro @lr31 (@ln31))))))))))))))) := ⟨@sh31, @sz31, @by31, @ag31, @kn31, @el31, @ze31, @ld31, @li31, @sto31, @ixi31, @iai31, @le31, @lr31, @ln31⟩
theorem Y32 : type_of% (And.intro @sh32 (And.intro @sz32 (And.intro @by32 (And.intro @ag32 (And.intro @kn32 (And.intro @el32 (And.intro @ze32 (And.intro @ld32 (And.intro @li32 (And.intro @sto32 (And.intro @ixi32 (And.intro @iai32 (And.intro @le32 (And.intro @lr32 (@ln32))))))))))))))) := ⟨@sh32, @sz32, @by32, @ag32, @kn32, @el32, @ze32, @ld32, @li32, @sto32, @ixi32, @iai32, @le32, @lr32, @ln32⟩
theorem Y34 : type_of% (And.intro @sh34 (And.intro @sz34 (And.intro @by34 (And.intro @ag34 (And.intro @kn34 (And.intro @ze34 (And.intro @pl34 (And.intro @lda34 (And.intro @sta34 (And.intro @bd34 (And.intro @fi34x0 (And.intro @fi34x1 (And.intro @fi34x2 (@fi34x3)))))))))))))) := ⟨@sh34, @sz34, @by34, @ag34, @kn34, @ze34, @pl34, @lda34, @sta34, @bd34, @fi34x0, @fi34x1, @fi34x2, @fi34x3⟩
theorem Y35 : type_of% (And.intro @sh35 (And.intro @sz35 (And.intro @by35 (And.intro @ag35 (And.intro @kn35 (And.intro @el35 (And.intro @ze35 (And.intro @ld35 (And.intro @li35 (And.intro @sto35 (And.intro @ixi35 (And.intro @iai35 (And.intro @le35 (And.intro @lr35 (@ln35))))))))))))))) := ⟨@sh35, @sz35, @by35, @ag35, @kn35, @el35, @ze35, @ld35, @li35, @sto35, @ixi35, @iai35, @le35, @lr35, @ln35⟩
theorem Y37 : type_of% (And.intro @sh37 (And.intro @sz37 (And.intro @by37 (And.intro @ag37 (And.intro @kn37 (And.intro @ze37 (And.intro @pl37 (And.intro @lda37 (And.intro @sta37 (And.intro @bd37 (And.intro @fi37x0 (@fi37x1)))))))))))) := ⟨@sh37, @sz37, @by37, @ag37, @kn37, @ze37, @pl37, @lda37, @sta37, @bd37, @fi37x0, @fi37x1⟩
theorem Y38 : type_of% (And.intro @sh38 (And.intro @sz38 (And.intro @by38 (And.intro @ag38 (And.intro @kn38 (And.intro @ze38 (And.intro @fk38 (And.intro @ipi38 (And.intro @ixv38 (And.intro @eq38 (And.intro @ne38 (And.intro @lda38 (And.intro @sta38 (@bd38)))))))))))))) := ⟨@sh38, @sz38, @by38, @ag38, @kn38, @ze38, @fk38, @ipi38, @ixv38, @eq38, @ne38, @lda38, @sta38, @bd38⟩
theorem Y39 : type_of% (And.intro @sh39 (And.intro @sz39 (And.intro @by39 (And.intro @ag39 (And.intro @kn39 (And.intro @el39 (And.intro @ze39 (And.intro @ld39 (And.intro @li39 (And.intro @sto39 (And.intro @ix39 (And.intro @ia39 (And.intro @mk39 (And.intro @ixi39 (And.intro @iai39 (And.intro @le39 (And.intro @lr39 (@ln39)))))))))))))))))) := ⟨@sh39, @sz39, @by39, @ag39, @kn39, @el39, @ze39, @ld39, @li39, @sto39, @ix39, @ia39, @mk39, @ixi39, @iai39, @le39, @lr39, @ln39⟩
theorem Y41 : type_of% (And.intro @sh41 (And.intro @sz41 (And.intro @by41 (And.intro @ag41 (And.intro @kn41 (And.intro @ze41 (And.intro @pl41 (And.intro @lda41 (And.intro @sta41 (And.intro @bd41 (And.intro @fi41x0 (And.intro @fi41x1 (@fi41x2))))))))))))) := ⟨@sh41, @sz41, @by41, @ag41, @kn41, @ze41, @pl41, @lda41, @sta41, @bd41, @fi41x0, @fi41x1, @fi41x2⟩
theorem Y43 : type_of% (And.intro @sh43 (And.intro @sz43 (And.intro @by43 (And.intro @ag43 (And.intro @kn43 (And.intro @ze43 (And.intro @pl43 (And.intro @lda43 (And.intro @sta43 (And.intro @bd43 (And.intro @fi43x0 (And.intro @fi43x1 (@fi43x2))))))))))))) := ⟨@sh43, @sz43, @by43, @ag43, @kn43, @ze43, @pl43, @lda43, @sta43, @bd43, @fi43x0, @fi43x1, @fi43x2⟩
theorem Y47 : type_of% (And.intro @sh47 (And.intro @sz47 (And.intro @by47 (And.intro @ag47 (And.intro @kn47 (And.intro @ze47 (And.intro @fk47 (And.intro @ipi47 (And.intro @ixv47 (And.intro @eq47 (And.intro @ne47 (And.intro @lda47 (And.intro @sta47 (@bd47)))))))))))))) := ⟨@sh47, @sz47, @by47, @ag47, @kn47, @ze47, @fk47, @ipi47, @ixv47, @eq47, @ne47, @lda47, @sta47, @bd47⟩
theorem Y48 : type_of% (And.intro @sh48 (And.intro @sz48 (And.intro @by48 (And.intro @ag48 (And.intro @kn48 (And.intro @ze48 (And.intro @ld48 (And.intro @li48 (@sto48))))))))) := ⟨@sh48, @sz48, @by48, @ag48, @kn48, @ze48, @ld48, @li48, @sto48⟩
theorem Y69 : type_of% (And.intro @sh69 (And.intro @sz69 (And.intro @by69 (And.intro @ag69 (And.intro @kn69 (And.intro @ze69 (And.intro @fk69 (And.intro @pl69 (And.intro @eq69 (And.intro @ne69 (And.intro @lda69 (And.intro @sta69 (And.intro @bd69 (And.intro @fi69x0 (And.intro @fi69x1 (And.intro @fi69x2 (@fi69x3))))))))))))))))) := ⟨@sh69, @sz69, @by69, @ag69, @kn69, @ze69, @fk69, @pl69, @eq69, @ne69, @lda69, @sta69, @bd69, @fi69x0, @fi69x1, @fi69x2, @fi69x3⟩
theorem Y120 : type_of% (And.intro @sh120 (And.intro @sz120 (And.intro @by120 (And.intro @ag120 (And.intro @kn120 (And.intro @ze120 (And.intro @fk120 (And.intro @ipi120 (And.intro @ixv120 (And.intro @eq120 (And.intro @ne120 (And.intro @lda120 (And.intro @sta120 (@bd120)))))))))))))) := ⟨@sh120, @sz120, @by120, @ag120, @kn120, @ze120, @fk120, @ipi120, @ixv120, @eq120, @ne120, @lda120, @sta120, @bd120⟩
theorem Y132 : type_of% (And.intro @sh132 (And.intro @sz132 (And.intro @by132 (And.intro @ag132 (And.intro @kn132 (And.intro @ze132 (And.intro @fk132 (And.intro @pl132 (And.intro @eq132 (And.intro @ne132 (And.intro @lda132 (And.intro @sta132 (And.intro @bd132 (And.intro @fi132x0 (@fi132x1))))))))))))))) := ⟨@sh132, @sz132, @by132, @ag132, @kn132, @ze132, @fk132, @pl132, @eq132, @ne132, @lda132, @sta132, @bd132, @fi132x0, @fi132x1⟩
theorem Y134 : type_of% @sz134 := @sz134
theorem Y148 : type_of% (And.intro @sh148 (And.intro @sz148 (And.intro @by148 (And.intro @ag148 (And.intro @kn148 (And.intro @ze148 (And.intro @fk148 (And.intro @pl148 (And.intro @eq148 (And.intro @ne148 (And.intro @lda148 (And.intro @sta148 (And.intro @bd148 (And.intro @fi148x0 (And.intro @fi148x1 (@fi148x2)))))))))))))))) := ⟨@sh148, @sz148, @by148, @ag148, @kn148, @ze148, @fk148, @pl148, @eq148, @ne148, @lda148, @sta148, @bd148, @fi148x0, @fi148x1, @fi148x2⟩
end Go.Am.R2L

/- The law of stems' questions. -/
namespace Go.Am.R2L
open Go.Proofs
set_option maxRecDepth 100000
set_option linter.unusedSimpArgs false
set_option linter.unusedVariables false
variable {σ : List O} {p : List Nat}
def In64 (n : Int) : Prop := -9223372036854775808 ≤ n ∧ n ≤ 9223372036854775807
end Go.Am.R2L

/- Stems as arguments: the law over all of them. -/
namespace Go.Am.R2L
open Go.Proofs
set_option maxRecDepth 100000
set_option linter.unusedSimpArgs false
set_option linter.unusedVariables false
theorem wtv_fields {D : Nat} {t : TypeId} {fs : Array Field} {cs : List V} (hu : cfg.P.underlying t = some (.struct fs)) (h : WT cfg.P (D + 1) t cs) (i : Nat) {f : Field} (hf : fs[i]? = some f) : WT cfg.P D f.type ((cs.drop f.offset).take (cfg.P.cellsOf f.type)) :=
  (wt_struct hu h).2 f (List.mem_of_getElem? (by simpa using hf))
theorem wtv_int {D off : Nat} {t : TypeId} {k : IntKind} {cs : List V} (hu : cfg.P.underlying t = some (.int k)) (hc : cfg.P.cellsOf t = 1) (h : WT cfg.P (D + 1) t ((cs.drop off).take (cfg.P.cellsOf t))) : ∃ n, cs[off]? = some (.i k n) ∧ k.min ≤ n ∧ n ≤ k.max := by
  rw [hc] at h
  obtain ⟨n, h1, h2⟩ := wt_int hu h
  exact ⟨n, take1 h1, h2⟩
theorem wt_ints {D n : Nat} {t e : TypeId} {k : IntKind} {cs : List V} (hu : cfg.P.underlying t = some (.array n e)) (he : cfg.P.underlying e = some (.int k)) (hc : cfg.P.cellsOf e = 1) (hn : cfg.P.cellsOf t = n) (h : WT cfg.P (D + 2) t cs) : ∃ z : List Int, cs = ints k z ∧ z.length = n := by
  obtain ⟨h1, h2⟩ := wt_array hu h
  rw [hn] at h1
  obtain ⟨l, hl, _⟩ := ints_of (k := k) (cs := cs) fun i hi => by
    have := h2 i (by omega)
    rw [hc, Nat.mul_one] at this
    obtain ⟨m, hm, hb⟩ := wt_int he this
    exact ⟨m, take1 hm, hb⟩
  refine ⟨l, hl, ?_⟩
  rw [hl, ints_len] at h1; exact h1
theorem in64 {n : Int} (h : IntKind.i64.min ≤ n ∧ n ≤ IntKind.i64.max) : In64 n := ⟨h.1, h.2⟩
theorem wt_ptr {D : Nat} {cs : List V} (h : WT cfg.P (D + 3) 24 cs) : ∃ a b z, (cs = R2.ptV a b z ∧ z.length = 32) ∧ In64 a ∧ In64 b := by
  have hl := (wt_struct Tryz.underlying24 h).1
  have hl' : cs.length = 34 := hl.trans (by kernel_rfl)
  obtain ⟨a, g0, ia⟩ := wtv_int (off := 0) Tryz.underlying3 (by kernel_rfl) (wtv_fields Tryz.underlying24 h 0 rfl)
  obtain ⟨b, g1, ib⟩ := wtv_int (off := 1) Tryz.underlying3 (by kernel_rfl) (wtv_fields Tryz.underlying24 h 1 rfl)
  have f2 := wtv_fields Tryz.underlying24 h 2 rfl
  obtain ⟨z, hz, hzl⟩ := wt_ints (n := 32) (k := .u8) Tryz.underlying22 Tryz.underlying5 (by kernel_rfl) (by kernel_rfl) f2
  have hz' : (cs.drop 2).take 32 = ints .u8 z := hz
  refine ⟨a, b, z, ⟨?_, hzl⟩, in64 ia, in64 ib⟩
  refine List.ext_getElem? fun i => ?_
  match i with
  | 0 => exact g0
  | 1 => exact g1
  | i + 2 =>
    show cs[i + 2]? = (ints .u8 z)[i]?
    rw [← hz', List.getElem?_take, List.getElem?_drop]
    by_cases hi : i < 32
    · rw [if_pos hi, Nat.add_comm]
    · rw [if_neg hi, List.getElem?_eq_none (by omega)]
theorem wt_stem {D : Nat} {cs : List V} (h : WT cfg.P (D + 4) 26 cs) : ∃ a b z c d, R2.StemAt cs a b z c d ∧ In64 a ∧ In64 b ∧ In64 c := by
  have hl := (wt_struct Tryz.underlying26 h).1
  have hl' : cs.length = 36 := hl.trans (by kernel_rfl)
  have f0 := wtv_fields Tryz.underlying26 h 0 rfl
  obtain ⟨a, b, z, ⟨hp, hz⟩, ia, ib⟩ := wt_ptr f0
  have hp' : (cs.drop 0).take 34 = R2.ptV a b z := hp
  obtain ⟨c, g1, ic⟩ := wtv_int (off := 34) Tryz.underlying3 (by kernel_rfl) (wtv_fields Tryz.underlying26 h 1 rfl)
  obtain ⟨d, g2, _⟩ := wtv_int (off := 35) Tryz.underlying3 (by kernel_rfl) (wtv_fields Tryz.underlying26 h 2 rfl)
  refine ⟨a, b, z, c, d, ⟨?_, hz⟩, ia, ib, in64 ic⟩
  refine List.ext_getElem? fun i => ?_
  have hlen := R2.ptV_len (a := a) (b := b) hz
  by_cases hi : i < 34
  · rw [List.getElem?_append_left (by omega), ← hp', List.getElem?_take, if_pos hi, List.drop_zero]
  · rw [List.getElem?_append_right (by omega), hlen]
    by_cases h1 : i = 34
    · subst h1; exact g1
    · by_cases h2 : i = 35
      · subst h2; exact g2
      · rw [List.getElem?_eq_none (by omega), List.getElem?_eq_none (by simp; omega)]
end Go.Am.R2L

/- What the rows' lists of package variables give the machine; worlds for the witnesses. -/
namespace Go.Am.R2L
open Go Go.Proofs Go.Proofs.YtibhpbpjdgodnaaGreatDoor Go.RowKit
set_option maxRecDepth 100000
set_option linter.unusedSimpArgs false
set_option linter.unusedVariables false
theorem gBegins : Tryz.prog.globalNamed "lazaret/sha.begins" = some 0 := by kernel_rfl
theorem gCubes : Tryz.prog.globalNamed "lazaret/sha.cubes" = some 1 := by kernel_rfl
theorem tBegins : (Tryz.prog.globals[0]?).map (·.type) = some 212 := by kernel_rfl
theorem tCubes : (Tryz.prog.globals[1]?).map (·.type) = some 229 := by kernel_rfl
theorem laidMet_tail {P : Program} {x : String × DataW Unit} {rest : List (String × DataW Unit)} {W : World} (h : laidMet P (x :: rest) W) : laidMet P rest W := by
  obtain ⟨ps, ⟨g', t', cs, fuel, p, q, h1, h2, h3, h4, h5, h6⟩, hn, hc⟩ := h
  subst h6
  exact ⟨q, h5, (List.nodup_append.1 hn).2.1, fun b off hm => hc b off (by simp [hm])⟩
def begins : List Int := [1779033703, 3144134277, 1013904242, 2773480762, 1359893119, 2600822924, 528734635, 1541459225]
def cubes : List Int := [1116352408, 1899447441, 3049323471, 3921009573, 961987163, 1508970993, 2453635748, 2870763221, 3624381080, 310598401, 607225278, 1426881987, 1925078388, 2162078206, 2614888103, 3248222580, 3835390401, 4022224774, 264347078, 604807628, 770255983, 1249150122, 1555081692, 1996064986, 2554220882, 2821834349, 2952996808, 3210313671, 3336571891, 3584528711, 113926993, 338241895, 666307205, 773529912, 1294757372, 1396182291, 1695183700, 1986661051, 2177026350, 2456956037, 2730485921, 2820302411, 3259730800, 3345764771, 3516065817, 3600352804, 4094571909, 275423344, 430227734, 506948616, 659060556, 883997877, 958139571, 1322822218, 1537002063, 1747873779, 1955562222, 2024104815, 2227730452, 2361852424, 2428436474, 2756734187, 3204031479, 3329325298]
abbrev laidBoth : List (String × DataW Unit) := [("lazaret/sha.begins", Rows.laid_lazaret_sha_begins), ("lazaret/sha.cubes", Rows.laid_lazaret_sha_cubes)]
theorem tabBegins {W : World} (h : laidMet Tryz.prog laidBoth W) : Lib.TabIs Tryz.prog W "lazaret/sha.begins" .u32 begins :=
  Lib.tabIs_of_head (rest := [("lazaret/sha.cubes", Rows.laid_lazaret_sha_cubes)]) gBegins tBegins Tryz.underlying212 Tryz.underlying211 (by kernel_rfl) (by kernel_rfl) h
theorem tabCubes {W : World} (h : laidMet Tryz.prog laidBoth W) : Lib.TabIs Tryz.prog W "lazaret/sha.cubes" .u32 cubes :=
  Lib.tabIs_of_head (rest := []) gCubes tCubes Tryz.underlying229 Tryz.underlying211 (by kernel_rfl) (by kernel_rfl) (laidMet_tail h)
theorem cell_lt {W : World} {g i : Nat} {v : Value} (h : W.cell? ⟨g, i, none⟩ = some v) : g < W.heap.size := by
  by_cases hg : g < W.heap.size
  · exact hg
  · have : W.heap[g]? = none := Array.getElem?_eq_none (by omega)
    simp [World.cell?, this] at h
theorem rel_tab {W : World} {g : Nat} {k : IntKind} {zs : List Int} (h0 : 0 < zs.length) (h : ∀ i, i < zs.length → W.cell? ⟨g, i, none⟩ = some (.int k (zs.getD i 0))) : Rel (MW W) W (.iptr (ints k zs)) (.pointer (some ⟨g, 0, none⟩)) := by
  refine .iptr (ints k zs) ⟨g, 0, none⟩ (zs.map (Value.int k)) (fun _ => cell_lt (h 0 h0)) (fun x hx => ?_) (RelL.map_ev zs (V.i k) (Value.int k) fun x _ => .i k x) (fun j y hy => ?_)
  · obtain ⟨z, _, rfl⟩ := List.mem_map.1 hx; rfl
  · rw [List.getElem?_map, Option.map_eq_some_iff] at hy
    obtain ⟨z, hz, rfl⟩ := hy
    have hj : j < zs.length := (List.getElem?_eq_some_iff.1 hz).1
    have := h j hj
    rw [List.getD_eq_getElem?_getD, hz] at this
    have ea : (⟨g, 0, none⟩ : Addr).add j = ⟨g, j, none⟩ := by simp [Addr.add]; exact fun e => e.symm
    rw [ea]; exact this
/-- The machine's package variables, in a world that the row speaks of. -/
theorem gr {W : World} (h : laidMet Tryz.prog laidBoth W) : GR cfg (MW W) W := by
  refine ⟨fun g cs hg => ?_⟩
  have hg : R2.globT g = some cs := hg
  unfold R2.globT at hg
  split at hg
  · rename_i e; subst e; cases hg
    exact rel_tab (zs := begins) (by decide) fun i hi => (tabBegins h).cell gBegins i hi
  split at hg
  · rename_i e; subst e; cases hg
    exact rel_tab (zs := cubes) (by decide) fun i hi => (tabCubes h).cell gCubes i hi
  · cases hg
/-- A world for the witnesses: the settled one, the two tables laid. -/
def setCells (cs : Array Value) : Obj → Obj
  | .cells _ t frozen => .cells cs t frozen
  | o => o
noncomputable def laidWorld (os : Os) : World :=
  let w0 := World.holding Tryz.prog os ⟨#[], #[], []⟩
  { w0 with heap := (w0.heap.modify 0 (setCells (begins.map (Value.int .u32)).toArray)).modify 1 (setCells (cubes.map (Value.int .u32)).toArray) }
end Go.Am.R2L

/- The law of what stems refuse. -/
namespace Go.Am.R2L
open Go.Proofs
set_option maxRecDepth 100000
set_option linter.unusedSimpArgs false
set_option linter.unusedVariables false
variable {σ : List O} {p : List Nat}
theorem spl128 : splice (List.replicate 128 (V.i .u8 0)) 0 [.i .u8 1] = .i .u8 1 :: List.replicate 127 (.i .u8 0) := rfl
end Go.Am.R2L

/- The law of what stems refuse: where not all is right. -/
namespace Go.Am.R2L
open Go.Proofs
set_option maxRecDepth 100000
set_option linter.unusedSimpArgs false
set_option linter.unusedVariables false
variable {σ : List O} {p : List Nat}
theorem stem_fks {cs : List V} {a b c d : Int} {z : List Int} (hs : R2.StemAt cs a b z c d) : cs.map V.fk = ([(.i .i64), (.i .i64)] ++ List.replicate 32 (.i .u8) ++ [(.i .i64), (.i .i64)] : List Fk).map some := by
  have hz : (ints .u8 z).map V.fk = List.replicate 32 (some (.i .u8)) := by
    rw [← hs.z, ints, List.map_map]
    clear hs
    induction z with
    | nil => rfl
    | cons x l ih => rw [List.map_cons, ih]; rfl
  rw [hs.eq, R2.ptV, List.map_append, List.map_cons, List.map_cons, hz]
  rfl
end Go.Am.R2L

/- The law of what tables refuse. -/
namespace Go.Am.R2L
open Go.Proofs
set_option maxRecDepth 100000
set_option linter.unusedSimpArgs false
set_option linter.unusedVariables false
variable {σ : List O} {p : List Nat}
theorem dr6x6 {p : List Nat} {s : St} {Q : Ex → St → Prop} (l : List Oper) : Wq cfg 6 p (.region 6 l.toArray true) s Q = OptQ (preObjs cfg p s.c 0 l) fun objs => TrXQ cfg p l.toArray s.σ.length s.c 0 l ⟨s.t, s.nt, s.σ ++ objs, s.c + objs.length⟩ [] fun tr s' => (([(1, 2), (5, 2)] : List (Nat × Nat)).all (okPair tr) && slotsOk s.σ.length tr 0 objs [5, 5]) = true ∧ Q .normal s' := Wp_drawY 6 l (show cfg.pre 6 6 = some [5, 5] from rfl) (show cfg.cls 6 6 = [(1, 2), (5, 2)] from rfl)
theorem dr35x4 {p : List Nat} {s : St} {Q : Ex → St → Prop} (l : List Oper) : Wq cfg 35 p (.region 4 l.toArray true) s Q = Ops cfg p l.toArray l s (Q .normal) := Wp_draw 4 l (show cfg.cls 35 4 = [] from rfl)
noncomputable def node3c : List V := ints .i64 [3, 2, 0, -1, -1] ++ ints .u8 (List.replicate 32 0) ++ ints .i64 [0, 2]
noncomputable def byts3c : List V := ints .u8 ([2, 0, 2, 0, 0, 0, 0, 0] ++ List.replicate 8 255 ++ List.replicate 48 0)
theorem put3 {τ : List O} {q : List Nat} : runF cfg 81 [.agg node3c] τ q = some (.tup [.agg byts3c, .i .i64 0], τ) := run_prim rfl (by kernel_rfl)
theorem new3 {τ : List O} {q : List Nat} : runF cfg 31 [.i .i64 3, .i .i64 2] τ q = some (.tup [.agg node3c, .i .i64 0], τ) := run_prim rfl (by kernel_rfl)
theorem sl120 {r : Nat} {st : List Nat} : sliceA cfg 120 (.ptr r st 0) none none none = some (.sl r st 0 64 1 (some 64)) := by
  simp [sliceA, sh120, sz5, bnd]
theorem set_no (v : R2.VolR) (h : v.ok) {cs : List V} {a b c d : Int} {z : List Int} (hs : R2.StemAt cs a b z c d) (ha : In64 a) (hb : In64 b) {r : Nat} {st : List Nat} (hr : r < σ.length) (hrow : rowAt σ r st = some v.v) (hn : (R2.stemB a b z c d && R2.mineB v a b z) = false)
    {w : Nat} {ws : List Nat} (hw : w < σ.length) (hw' : rowAt σ w ws = some cs) : runF cfg 35 [.ptr r st 0, .ptr w ws 0, .agg node3c] σ p = some (.i .i64 1, σ) := by
  refine run_done rfl rfl Tryz.func35 rfl ?_
  have hrow' : ∀ L, rowAt (σ ++ L) r st = some v.v := fun L => by
    rw [← hrow]; unfold rowAt; rw [List.getElem?_append_left hr]
  have hrw : ∀ L, rowAt (σ ++ L) w ws = some cs := fun L => by
    rw [← hw']; unfold rowAt; rw [List.getElem?_append_left hw]
  have c1 := fun (τ : List O) q => put3 (τ := τ) (q := q)
  have c2 := fun (τ : List O) q => up (R2.place3_ok (σ := τ) (p := q) 3)
  have c3 : ∀ L q n x, x.one = true → runF cfg 27 [.ptr r st 0, .ptr w ws 0, .i .i64 n, x] (σ ++ L) q = some (.i .i64 1, σ ++ L) := fun L q n x hx => up (R2.write_no v h hs ha hb (by simp; omega) (hrow' L) hn (by simp; omega) (hrw L) n x hx)
  have l1 : node3c.length = 39 := rfl
  have n1 : node3c.all V.one = true := by decide +kernel
  have t1 : take? node3c 0 39 = some node3c := take_all l1
  have g0 : node3c[0]? = some (.i .i64 3) := rfl
  have l2 : byts3c.length = 64 := rfl
  have n2 : byts3c.all V.one = true := by decide +kernel
  generalize node3c = nd at *
  generalize byts3c = by3 at *
  simp +contextual (disch := first | omega | exact rfl | decide | exact kpF (by decide) | exact kpT (by decide) | assumption | exact Z2z | exact Z30 | exact Z32 | exact Z31 | exact Z33 | exact Z34 | (simp only [ZI] <;> omega) | simp only [ZK] | (simp only [ZL] <;> assumption)) only [Tryz.f35, ZH, SOp, GOp, ↓Z1c, Int.reduceAdd, Int.reduceSub, Int.reduceMul, Int.reduceNeg, accs, touch, touchM, okPair, Nat.reduceAdd, Nat.reduceLeDiff, Nat.reduceMul, Nat.reduceSub, isV, opA, grdO, grd, Z41, Int.reduceLT, Int.reduceLE, Int.reduceToNat, builtinP, builtinA, changes, fieldAddrA, resA, tupled, ↓reduceIte, Nat.reduceEqDiff, Nat.reduceLT, Z70, Int.reduceEq, dr35x4, Y3, Y5, Y24, Y26, Y48, Y69, Y120, derefA, sl120, c1, c2, c3, l1, n1, t1, g0, l2, n2]
theorem law6_yes (v : R2.VolR) (h : v.ok) {cs : List V} {a b c d : Int} {z : List Int} (hs : R2.StemAt cs a b z c d) (ha : In64 a) (hb : In64 b) (n : Int) (hg : (R2.rightV v && (R2.stemB a b z c d && R2.mineB v a b z)) = true ∨ 300 < (v.d.nc : Int)) :
    runF cfg 6 [.agg v.v, .agg cs, .i .i64 n] σ p = some (.b true, σ) := by
  refine run_done rfl rfl Tryz.func6 rfl ?_
  have o1 := h.d.s.one
  have o2 := h.d.c.one
  have o3 := h.m.s.one
  have o4 := h.s.sv.one
  have tk := hs.tk
  have t36 : take? cs 0 36 = some cs := take_all hs.len
  have ho := hs.one
  have y := fun (τ : List O) q => yes30 (σ := τ) (p := q)
  have c1 := fun (τ : List O) q => up (R2.vol9_ok (σ := τ) (p := q) v h)
  have c2 := fun (τ : List O) q => up (R2.stem2_ok (σ := τ) (p := q) hs)
  have c3 := fun (τ : List O) q => up (R2.mine9_ok (σ := τ) (p := q) v h a b z hs.z ha hb)
  have l1 := fun τ => h.d.c.len (C := cfg) sh32 τ
  have tv : take? v.v 0 10 = some v.v := rfl
  simp only [R2.VolR.v] at *
  generalize R2.rightV v = b1 at *
  generalize R2.stemB a b z c d = b2 at *
  generalize R2.mineB v a b z = b3 at *
  by_cases h3 : 300 < (v.d.nc : Int)
  · cases b1 <;> cases b2 <;> cases b3 <;> simp +contextual (disch := first | omega | exact rfl | decide | exact kpF (by decide) | exact kpT (by decide) | assumption | exact Z2z | exact Z30 | exact Z32 | exact Z31 | exact Z33 | exact Z34 | (simp only [ZI] <;> omega) | simp only [ZK] | (simp only [ZL] <;> assumption)) only [Tryz.f6, ZH, SOp, GOp, ↓Z1c, Int.reduceAdd, Int.reduceSub, Int.reduceMul, Int.reduceNeg, accs, touch, touchM, okPair, Nat.reduceAdd, Nat.reduceLeDiff, Nat.reduceMul, Nat.reduceSub, isV, opA, grdO, grd, Z41, Int.reduceLT, Int.reduceLE, Int.reduceToNat, builtinP, builtinA, changes, fieldAddrA, resA, tupled, ↓reduceIte, Nat.reduceEqDiff, Nat.reduceLT, Z70, Int.reduceEq, Y3, Y4, Y5, Y22, Y24, Y26, Y31, Y32, Y34, Y35, Y37, Y38, Y39, Y41, Y43, Y47, Y48, Y69, Y132, Y148, y, c1, c2, c3, o1, o2, o3, o4, ho, tk, t36, tv, l1, h3, R2.tk04]
  · rcases hg with hg | hg
    · cases b1 <;> cases b2 <;> cases b3 <;> first | (exact absurd hg (by decide)) | simp +contextual (disch := first | omega | exact rfl | decide | exact kpF (by decide) | exact kpT (by decide) | assumption | exact Z2z | exact Z30 | exact Z32 | exact Z31 | exact Z33 | exact Z34 | (simp only [ZI] <;> omega) | simp only [ZK] | (simp only [ZL] <;> assumption)) only [Tryz.f6, ZH, SOp, GOp, ↓Z1c, Int.reduceAdd, Int.reduceSub, Int.reduceMul, Int.reduceNeg, accs, touch, touchM, okPair, Nat.reduceAdd, Nat.reduceLeDiff, Nat.reduceMul, Nat.reduceSub, isV, opA, grdO, grd, Z41, Int.reduceLT, Int.reduceLE, Int.reduceToNat, builtinP, builtinA, changes, fieldAddrA, resA, tupled, ↓reduceIte, Nat.reduceEqDiff, Nat.reduceLT, Z70, Int.reduceEq, Y3, Y4, Y5, Y22, Y24, Y26, Y31, Y32, Y34, Y35, Y37, Y38, Y39, Y41, Y43, Y47, Y48, Y69, Y132, Y148, y, c1, c2, c3, o1, o2, o3, o4, ho, tk, t36, tv, l1, h3, R2.tk04]
    · exact absurd hg h3
end Go.Am.R2L

/- The law of what tables refuse: where not all is right. -/
namespace Go.Am.R2L
open Go.Proofs
set_option maxRecDepth 100000
set_option linter.unusedSimpArgs false
set_option linter.unusedVariables false
variable {σ : List O} {p : List Nat}
theorem law6_no (v : R2.VolR) (h : v.ok) {cs : List V} {a b c d : Int} {z : List Int} (hs : R2.StemAt cs a b z c d) (ha : In64 a) (hb : In64 b) (hc : In64 c) (n : Int) (hg : (R2.rightV v && (R2.stemB a b z c d && R2.mineB v a b z)) = false) (h3 : ¬ 300 < (v.d.nc : Int)) :
    runF cfg 6 [.agg v.v, .agg cs, .i .i64 n] σ p = some (.b true, σ) := by
  have hn : (R2.stemB a b z c d && R2.mineB v a b z) = false := by
    rw [← Bool.not_eq_true] at hg ⊢
    simp only [Bool.and_eq_true] at hg ⊢
    exact fun hh => hg ⟨(Bool.and_eq_true_iff.1 hh.2).1, hh.1, hh.2⟩
  refine run_done rfl rfl Tryz.func6 rfl ?_
  have o1 := h.d.s.one
  have o2 := h.d.c.one
  have o3 := h.m.s.one
  have o4 := h.s.sv.one
  have hcp := h.cp
  have tk := hs.tk
  have t36 : take? cs 0 36 = some cs := take_all hs.len
  have hl := hs.len
  have ho := hs.one
  have y := fun (τ : List O) q => yes30 (σ := τ) (p := q)
  have c1 := fun (τ : List O) q => up (R2.vol9_ok (σ := τ) (p := q) v h)
  have c2 := fun (τ : List O) q => up (R2.stem2_ok (σ := τ) (p := q) hs)
  have c3 := fun (τ : List O) q => up (R2.mine9_ok (σ := τ) (p := q) v h a b z hs.z ha hb)
  have c4 := fun (τ : List O) q => up (R2.copy_vol (σ := τ) (p := q) v h)
  have c5 := fun (τ : List O) q => up (R2.same_vol (σ := τ) (p := q) v.cp v h.cp h rfl)
  have l1 := fun τ => h.d.c.len (C := cfg) sh32 τ
  have n1 : (R2.stemB a b z c d && R2.mineB v.cp a b z) = false := hn
  have L1 : ∀ (u x y : O) (st ws : List Nat) (L : List O), σ.length + 3 < (σ ++ u :: x :: y :: .cells st v.cp.v :: .cells ws cs :: L).length := fun u x y st ws L => by simp only [List.length_append, List.length_cons]; omega
  have L2 : ∀ (u x y : O) (st ws : List Nat) (L : List O), σ.length + 4 < (σ ++ u :: x :: y :: .cells st v.cp.v :: .cells ws cs :: L).length := fun u x y st ws L => by simp only [List.length_append, List.length_cons]; omega
  have R1 : ∀ (u x y : O) (st ws : List Nat) (L : List O), rowAt (σ ++ u :: x :: y :: .cells st v.cp.v :: .cells ws cs :: L) (σ.length + 3) st = some v.cp.v := fun u x y st ws L => by rw [rowAt_app]; simp [rowAt]
  have R2' : ∀ (u x y : O) (st ws : List Nat) (L : List O), rowAt (σ ++ u :: x :: y :: .cells st v.cp.v :: .cells ws cs :: L) (σ.length + 4) ws = some cs := fun u x y st ws L => by rw [rowAt_app]; simp [rowAt]
  have r1 : ∀ (q : List Nat) (u x y : O) (st ws : List Nat) (L : List O), runF cfg 32 [.ptr (σ.length + 3) st 0, .agg cs, .i .i64 n] (σ ++ u :: x :: y :: .cells st v.cp.v :: .cells ws cs :: L) q = some (.tup [R2.node0, .i .i64 1], σ ++ u :: x :: y :: .cells st v.cp.v :: .cells ws cs :: L) := fun q u x y st ws L => up (R2.get_no v.cp hcp hs ha hb (L1 u x y st ws L) (R1 u x y st ws L) n1 n)
  have r2 : ∀ (q : List Nat) (u x y : O) (st ws : List Nat) (L : List O), runF cfg 33 [.ptr (σ.length + 3) st 0, .agg cs] (σ ++ u :: x :: y :: .cells st v.cp.v :: .cells ws cs :: L) q = some (.tup [.i .i64 0, .i .i64 1], σ ++ u :: x :: y :: .cells st v.cp.v :: .cells ws cs :: L) := fun q u x y st ws L => up (R2.next_no v.cp hcp hs ha hb (L1 u x y st ws L) (R1 u x y st ws L) n1)
  have r3 : ∀ (q : List Nat) (u x y : O) (st ws : List Nat) (L : List O), runF cfg 34 [.ptr (σ.length + 3) st 0, .agg cs] (σ ++ u :: x :: y :: .cells st v.cp.v :: .cells ws cs :: L) q = some (.tup [.nils, .i .i64 1], σ ++ u :: x :: y :: .cells st v.cp.v :: .cells ws cs :: L) := fun q u x y st ws L => up (R2.list_no v.cp hcp hs ha hb (L1 u x y st ws L) (R1 u x y st ws L) n1)
  have r4 : ∀ (q : List Nat) (u x y : O) (st ws : List Nat) (L : List O), runF cfg 35 [.ptr (σ.length + 3) st 0, .ptr (σ.length + 4) ws 0, .agg node3c] (σ ++ u :: x :: y :: .cells st v.cp.v :: .cells ws cs :: L) q = some (.i .i64 1, σ ++ u :: x :: y :: .cells st v.cp.v :: .cells ws cs :: L) := fun q u x y st ws L => set_no v.cp hcp hs ha hb (L1 u x y st ws L) (R1 u x y st ws L) n1 (L2 u x y st ws L) (R2' u x y st ws L)
  have r5 : ∀ (q : List Nat) (u x y : O) (st ws : List Nat) (L : List O), runF cfg 36 [.ptr (σ.length + 3) st 0, .ptr (σ.length + 4) ws 0, .i .i64 n] (σ ++ u :: x :: y :: .cells st v.cp.v :: .cells ws cs :: L) q = some (.i .i64 1, σ ++ u :: x :: y :: .cells st v.cp.v :: .cells ws cs :: L) := fun q u x y st ws L => up (R2.clear_no v.cp hcp hs ha hb (L1 u x y st ws L) (R1 u x y st ws L) n1 (R2' u x y st ws L) n)
  have q26 : ∀ x y, binA cfg .eql 26 x y (.agg cs) (.agg cs) = some (.b true) := fun x y => by
    rw [eq26 (stem_fks hs) (stem_fks hs), eqB_refl (fk_some (stem_fks hs))]
  have tv : take? v.v 0 10 = some v.v := rfl
  have y31 := fun (τ : List O) q => new3 (τ := τ) (q := q)
  have l3 : node3c.length = 39 := rfl
  have n3 : node3c.all V.one = true := by decide +kernel
  have t3 : take? node3c 0 39 = some node3c := take_all l3
  have tw : take? v.cp.v 0 10 = some v.cp.v := rfl
  have lw : v.cp.v.length = 10 := rfl
  have ow : v.cp.v.all V.one = true := by
    have o1 := hcp.d.s.one
    have o2 := hcp.d.c.one
    have o3 := hcp.m.s.one
    have o4 := hcp.s.sv.one
    simp only [R2.VolR.v, List.all_cons, List.all_nil, o1, o2, o3, o4, one_i, one_b]; rfl
  clear R1 R2' L1 L2
  generalize node3c = nd at *
  generalize hvw : v.cp.v = vw at *
  simp only [R2.VolR.v] at *
  generalize R2.rightV v = b1 at *
  generalize R2.stemB a b z c d = b2 at *
  generalize R2.mineB v a b z = b3 at *
  have hcase : b1 = false ∨ (b1 = true ∧ b2 = false) ∨ (b1 = true ∧ b2 = true ∧ b3 = false) := by
    cases b1 <;> cases b2 <;> cases b3 <;> simp at hg ⊢
  clear hg hn n1
  rcases hcase with rfl | ⟨rfl, rfl⟩ | ⟨rfl, rfl, rfl⟩
  all_goals simp +contextual (disch := first | omega | exact rfl | decide | exact kpF (by decide) | exact kpT (by decide) | assumption | exact Z2z | exact Z30 | exact Z32 | exact Z31 | exact Z33 | exact Z34 | (simp only [ZI] <;> omega) | simp only [ZK] | (simp only [ZL] <;> assumption)) only [Tryz.f6, ZH, SOp, GOp, ↓Z1c, Int.reduceAdd, Int.reduceSub, Int.reduceMul, Int.reduceNeg, accs, touch, touchM, okPair, Nat.reduceAdd, Nat.reduceLeDiff, Nat.reduceMul, Nat.reduceSub, isV, opA, grdO, grd, Z41, Int.reduceLT, Int.reduceLE, Int.reduceToNat, builtinP, builtinA, changes, fieldAddrA, resA, tupled, ↓reduceIte, Nat.reduceEqDiff, Nat.reduceLT, Z70, Int.reduceEq, Y3, Y4, Y5, Y22, Y24, Y26, Y31, Y32, Y34, Y35, Y37, Y38, Y39, Y41, Y43, Y47, Y48, Y69, Y132, Y148, dr6x6, preObjs, preO, TrXQ_nil, TrXQ_cons, StepXQ_alloc, StepXQ_step, slotsOk, spl128, Nat.add_assoc, List.take_succ_cons, y, c1, c2, c3, c4, c5, r1, r2, r3, r4, r5, y31, l3, n3, t3, R2.node0, q26, o1, o2, o3, o4, ho, tk, t36, tv, tw, lw, ow, hl, l1, h3, R2.tk04]

end Go.Am.R2L

/- The law of what tables refuse: over all arguments. -/
namespace Go.Am.R2L
open Go.Proofs
set_option maxRecDepth 100000
set_option linter.unusedSimpArgs false
set_option linter.unusedVariables false
theorem law6 (v : R2.VolR) (h : v.ok) {cs : List V} {a b c d : Int} {z : List Int} (hs : R2.StemAt cs a b z c d) (ha : In64 a) (hb : In64 b) (hc : In64 c) (n : Int) {σ : List O} {p : List Nat} :
    runF cfg 6 [.agg v.v, .agg cs, .i .i64 n] σ p = some (.b true, σ) := by
  by_cases h3 : 300 < (v.d.nc : Int)
  · exact law6_yes v h hs ha hb n (.inr h3)
  · cases hg : (R2.rightV v && (R2.stemB a b z c d && R2.mineB v a b z)) with
    | true => exact law6_yes v h hs ha hb n (.inl hg)
    | false => exact law6_no v h hs ha hb hc n hg h3
theorem law6_all (xs : List V) (h : WTA cfg.P [43, 26, 3] xs) : runF cfg 6 xs [] [] = some (.b true, []) := by
  obtain ⟨cs, ys, rfl, _, h1, h⟩ := wta_cons h
  obtain ⟨cs2, ys, rfl, _, h2, h⟩ := wta_cons h
  obtain ⟨cs3, ys, rfl, _, h3, h⟩ := wta_cons h
  obtain rfl := wta_nil h
  obtain ⟨v, hv, rfl⟩ := R2.wt_vol h1
  obtain ⟨a, b, z, c, d, hs, ha, hb, hc⟩ := wt_stem (D := 16) h2
  obtain ⟨n, rfl, hn⟩ := wt_int (D := 19) Tryz.underlying3 h3
  rw [argV_agg (by kernel_rfl), argV_agg (by kernel_rfl), argV_one (by kernel_rfl)]
  exact law6 v hv hs ha hb hc n
end Go.Am.R2L
