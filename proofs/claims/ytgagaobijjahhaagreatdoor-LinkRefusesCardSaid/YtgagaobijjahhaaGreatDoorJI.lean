/- Parts of one machine and of the walks over it, joined: K71 L0. -/
import Derived.Test.YtgagaobijjahhaaGreatDoorJF
import Derived.Test.YtgagaobijjahhaaGreatDoorJG
import Derived.Test.YtgagaobijjahhaaGreatDoorJH
import Derived.Test.YtgagaobijjahhaaGreatDoorJA
import Derived.Test.YtgagaobijjahhaaGreatDoorAmMore
/- The sheet's own question is answered yes: the machine is sound there. -/
namespace Go.Am.R2
open Go.Proofs
set_option maxRecDepth 100000
set_option linter.unusedSimpArgs false
set_option linter.unusedVariables false
theorem rel_clip {M : Mp} {w : World} {cs : List V} {n : Nat} {cl : Bool} {ys : List Value} (h : RelL M w [.arr cs n cl] ys) : RelL M w [.arr cs n false] ys := by
  cases h with
  | cons _ y _ ys h1 h2 =>
    cases h2
    cases h1 with
    | arr _ _ _ a vs k h1 h2 h3 h4 h5 h6 => exact .cons _ _ _ _ (.arr _ _ _ a vs k h1 h2 h3 h4 h5 (fun e => by cases e)) .nil
theorem glob_cln' : ∀ g cs, cfg.glob g = some cs → V.cleanL true cs = true := fun g cs h => glob_cln g cs (by rw [glob_eq]; exact h)
theorem pIdx_mono {args : List V} {m : Mem} {σ : List O} {v : V} (hm : MB m σ) (h : pIdxB args m = some v) : pIdxS args σ = some v := by
  unfold pIdxB at h
  split at h
  · cases h
  · rename_i x c hx
    split at h
    case h_2 => cases h
    rename_i n cs he
    split at h
    case h_2 => cases h
    rename_i ns hns
    split at h
    case h_2 => cases h
    rename_i hc
    have hc := blt_true hc
    split at h
    case h_2 => cases h
    rename_i r hr
    cases h
    have hcs := u8n_eq hns
    have hb : bytesOf cs = some (ns.map UInt8.ofNat) := by
      rw [hcs, bytesOf_ints, List.map_map]; rfl
    have e0 := elemsB_sound hm he
    have hi : Lib.indexByte (ns.map UInt8.ofNat) (UInt8.ofNat c) = r := by
      rcases find1_ok hc hr with ⟨rfl, h2⟩ | ⟨j, rfl, h2⟩
      · exact h2
      · rw [h2]; simp
    have hg : pIdxS [x, .i .u8 (.ofNat c)] σ = (elems 1 σ x).bind fun (_, cs) => (bytesOf cs).map fun l => .i .i64 (Lib.indexByte l (Int.ofNat c).toNat.toUInt8) := by
      cases x <;> first | rfl | exact (hx _ rfl).elim
    rw [hg, e0]
    simp only [Option.bind_some, hb, Option.map_some]
    show some (V.i .i64 (Lib.indexByte (ns.map UInt8.ofNat) (UInt8.ofNat c))) = _
    rw [hi]
  · cases h
theorem pes_ok {top : Nat} : ∀ x ∈ pes, x.ok (cfgE top) := by
  intro x hx
  simp only [pes, List.mem_cons, List.not_mem_nil, or_false] at hx
  rcases hx with rfl | rfl | rfl | rfl | rfl | rfl | rfl | rfl | rfl | rfl | rfl | rfl
  · exact ⟨primAt_pFrz (C' := cfgE top) callOk glob_cln' rfl glob_eq, fun args m σ v hm h => mine_pe hm h⟩
  · exact ⟨primAt_pFrz (C' := cfgE top) callOk glob_cln' rfl glob_eq, fun args m σ v hm h => formed_pe hm h⟩
  · exact ⟨primAt_pFrz (C' := cfgE top) callOk glob_cln' rfl glob_eq, fun args m σ v hm h => right_pe hm h⟩
  · exact ⟨primAt_pFrz (C' := cfgE top) callOk glob_cln' rfl glob_eq, fun args m σ v hm h => zero_pe hm h⟩
  · exact ⟨primAt_pFrz (C' := cfgE top) callOk glob_cln' rfl glob_eq, fun args m σ v hm h => ptr_pe h⟩
  · exact ⟨primAt_pFrz (C' := cfgE top) callOk glob_cln' rfl glob_eq, fun args m σ v hm h => stem_pe h⟩
  · exact ⟨primAt_pFrz (C' := cfgE top) callOk glob_cln' rfl glob_eq, fun args m σ v hm h => rem_pe h⟩
  · refine ⟨primAt_frz (C := cfg) (C' := cfgE top) callOk glob_cln' rfl glob_eq fun args σ v hv => ?_, fun args m σ v hm hv => ?_⟩
    · have hv : pMaxA args σ = some v := hv
      unfold pMaxA at hv
      split at hv
      case h_2 => cases hv
      rename_i x
      obtain ⟨ns, cl, h1, h2, _⟩ := rowy_frz hv
      obtain ⟨k, h3, h4⟩ := maxT (cl := cl) h1
      refine ⟨k, [], _, h3, ?_, h4, fun M w ys hr => ?_⟩
      · simp only [V.cleanL, V.clean, Bool.true_and, cleanL_ints]
      · rw [List.map_cons, List.map_nil, h2] at hr
        exact hr
    · have hv : pMaxB args m = some v := hv
      unfold pMaxB at hv
      show pMaxA args σ = some v
      split at hv
      · exact on1_mono hm hv
      · cases hv
  · refine ⟨primAt_frz (C := cfgS) (C' := cfgE top) callOkS glob_cln rfl rfl fun args σ v hv => ?_, fun args m σ v hm hv => ?_⟩
    · have hv : pSumA args σ = some v := hv
      unfold pSumA at hv
      split at hv
      case h_2 => cases hv
      rename_i x
      obtain ⟨ns, cl, h1, h2, _⟩ := rowy_frz hv
      obtain ⟨k, h3, h4⟩ := sumT h1
      refine ⟨k, [0], _, h3, ?_, h4, fun M w ys hr => ?_⟩
      · simp only [V.cleanL, V.clean, Bool.true_and, cleanL_ints]
      · rw [List.map_cons, List.map_nil, h2] at hr
        exact rel_clip hr
    · have hv : pSumB args m = some v := hv
      unfold pSumB at hv
      show pSumA args σ = some v
      split at hv
      · exact on1_mono hm hv
      · cases hv
  · exact ⟨primAt_put (C' := cfgE top) rfl glob_eq nods_ok (by decide +kernel) nods_frz, fun args m σ v hm h => h⟩
  · exact ⟨prim_idxS Tryz.func248 (by kernel_rfl) (by kernel_rfl) (by kernel_rfl) (by kernel_rfl), fun args m σ v hm h => pIdx_mono hm h⟩
  · exact ⟨prim_indexByte Tryz.func167 (by kernel_rfl) (by kernel_rfl) (by kernel_rfl) (by kernel_rfl), fun args m σ v hm h => by
      have h : pIndexByte args [] = some v := h
      show pIndexByte args σ = some v
      unfold pIndexByte at h ⊢
      split at h
      · exact h
      · cases h⟩
theorem iterE {top : Nat} : IterOk (cfgE top) := by
  intro gf it h
  have h : itA gf = some it := h
  unfold itA at h
  split at h
  · rename_i e
    cases Nat.eq_of_beq_eq_true e
    cases h
    exact iter_backward (C := cfgE top) (gf := 254) (z := 129) (tS := 28) (tE := 116) (tI := 3) (tB := 4) (tF := 286) Tryz.func254 rfl rfl rfl (by decide +kernel) (by kernel_rfl) (by kernel_rfl) (by decide) (by kernel_rfl) (by kernel_rfl)
  split at h
  · rename_i e
    cases Nat.eq_of_beq_eq_true e
    cases h
    exact iter_pieces (C := cfgE top) (gf := 152) (tI := 3) (tB := 4) (tP := 163) (tF := 193) Tryz.func152 rfl rfl rfl (by decide +kernel) (by kernel_rfl) (fun x y z => by kernel_rfl)
  · cases h
theorem primsE {top : Nat} : PrimOk (cfgE top) := { v := primOk_of (primL_at pes_ok), m := (fun f g h => by cases h), hook := hook_none fun _ _ => rfl, iter := iterE, still := stillAt rfl glob_eq }
theorem mixedE {top : Nat} : (cfgE top).P.follows .mixedOrders = true := mixed
theorem callOkE {top : Nat} (h : fnsOk (cfgE top) = true) (k : Nat) : CallOk (cfgE top) (runA (cfgE top) k) := run_sound primsE h (draw_sound mixedE primsE.still) k
theorem tokE {top : Nat} : tyK = mkK (cfgE top) tyL := by kernel_rfl
theorem dokE {top : Nat} (ht : fnL.contains top = false) : DOk (cfgE top) DE where
  ty := tok_of tokE
  glob _ := rfl
  cls _ _ := rfl
  hook _ _ := rfl
  pre _ _ := rfl
  still _ := rfl
  fn f fn h1 h2 := by
    have h2 : fnK.getB f = some fn := h2
    rw [fnK_eq] at h2
    obtain ⟨h3, h4⟩ := mkF_ok h2
    refine ⟨primL_none h1, rfl, ?_, h4, fun p => ?_⟩
    · show barE top f = false
      unfold barE
      rw [List.contains_iff_mem.2 h3]; rfl
    · show (!(f == top)) = true
      rw [Bool.not_eq_true', beq_eq_false_iff_ne]
      rintro rfl
      rw [List.contains_iff_mem.2 h3] at ht
      cases ht
  iter f it h := by
    have h : itB f = some it := h
    unfold itB at h
    split at h
    · rename_i e
      cases h
      exact ⟨backA 129, (by show itA f = _; unfold itA; simp only [e]), fun cap m σ x hm hx => backB_sound hm hx⟩
    split at h
    · rename_i e1 _ e2
      cases h
      exact ⟨piecesA, (by show itA f = _; unfold itA; simp only [e1, e2]), fun cap m σ x hm hx => piecesB_sound hm hx⟩
    · cases h
  prim f g h := primL_b (pes_ok (top := top)) f g h
theorem aliveA : runA (cfgE 5) 401 5 [] [] [0] = some (.b true, []) :=
  have hD := dokE (top := 5) (by decide +kernel)
  reach_end (C := cfgE 5) hD (body := bodyA) (by kernel_rfl) (reach_seg hD (reach_seg hD (reach_seg hD (reach_seg hD reach_start seg1_run) seg2_run) seg3_run) seg4_run) (yesV_eq end_run) (by kernel_rfl) rfl (by decide +kernel) Tryz.func5 rfl rfl
end Go.Am.R2

/- The machine over this seat's program, for the laws: what the sheet asks of itself is told. -/
namespace Go.Am.R2L
open Go.Proofs
set_option linter.unusedVariables false
set_option linter.unusedSimpArgs false
def pYes : List V → List O → Option V
  | [], _ => some (.b true)
  | _, _ => none
noncomputable def nodeN : V := .agg (ints .i64 [1, 2, 0, -1, -1] ++ ints .u8 (List.replicate 32 0) ++ ints .i64 [0, 2])
noncomputable def pNew (args : List V) : Option V := match args with
  | [.i .i64 1, .i .i64 2] => some (.tup [nodeN, .i .i64 0])
  | _ => none
noncomputable def primT (f : Nat) : Option (List V → List O → Option V) := if f = 5 then some pYes else if f = 38 then some (fun a _ => pNew a) else if f = 83 then some (fun a _ => R2.pPut R2.nods a) else if f = 248 then some pIdxS else if f = 167 then some pIndexByte else none
def barT (f : Nat) : Bool := f == 134 || f == 74
noncomputable def cfg : Cfg := R2.cfg.more primT barT
set_option maxRecDepth 100000
theorem fns : fnsOk cfg = true := by decide +kernel
theorem kpF {f : Nat} {p : List Nat} (h : [71, 22].contains f = false) : cfg.keep f p = false := h
theorem kpT {f : Nat} {p : List Nat} (h : [71, 22].contains f = true) : cfg.keep f p = true := h
theorem mixed : cfg.P.follows .mixedOrders = true := by kernel_rfl
noncomputable def cfgN : Cfg := { R2.cfg with bar := fun f => f == 5 || f == 134 || f == 83 || f == 74 }
theorem fnsN : fnsOk cfgN = true := by decide +kernel
theorem hooksN : HookOk cfgN := by
  intro g id h hh fn c0 ops _ _ _ B0 p s s' a M w _ hs
  have hh : R2.hookT g id = some h := hh
  unfold R2.hookT at hh
  split at hh
  · cases hh; cases hs
  · cases hh
theorem primsN : PrimOk cfgN := { v := primOk_of (R2.primAt cfgN rfl), m := (fun f g h => by cases h), hook := hooksN }
theorem callOkN (k : Nat) : CallOk cfgN (runA cfgN k) := run_sound primsN fnsN (draw_sound R2.mixed primsN.still) k
theorem new_run : (match runA cfgN 60 38 [.i .i64 1, .i .i64 2] [] [0] with | some (v, σ) => V.eqb v (.tup [nodeN, .i .i64 0]) && σ.isEmpty | none => false) = true := by decide +kernel
theorem primNew {C' : Cfg} (hP : C'.P = R2.cfg.P) (hG : C'.glob = cfgN.glob) : PrimAt C' 38 fun args _ => pNew args := by
  intro B0 args σ p v hv
  have hv : pNew args = some v := hv
  unfold pNew at hv
  split at hv
  case h_2 => cases hv
  cases hv
  have h0 := new_run
  split at h0
  case h_2 => cases h0
  rename_i v σ' hr
  rw [Bool.and_eq_true] at h0
  obtain ⟨h1, h2⟩ := h0
  have h1 := V.eqb_eq h1
  have h2 : σ' = [] := by simpa using h2
  subst h1; subst h2
  exact prim_frz (callOkN 60) (f := 38) (p0 := [0]) hr (by decide +kernel) (by decide +kernel) R2.glob_clnK hP hG (fun M w ys h => h)
theorem primAt : ∀ f g, primT f = some g → PrimAt cfg f g := by
  intro f g h'
  unfold primT at h'
  split at h'
  · rename_i e; subst e; cases h'
    refine primAt_frz (C := R2.cfgE 5) (C' := cfg) (R2.callOkE R2.fnsE) R2.glob_cln rfl R2.glob_eq.symm fun args σ v hv => ?_
    unfold pYes at hv
    split at hv
    · cases hv
      exact ⟨401, [0], [], R2.aliveA, rfl, rfl, fun _ _ _ h => h⟩
    · cases hv
  split at h'
  · rename_i e; subst e; cases h'; exact primNew rfl rfl
  split at h'
  · rename_i e; subst e; cases h'; exact R2.primAt_put (C' := cfg) rfl rfl R2.nods_ok (by decide +kernel) R2.nods_frz
  split at h'
  · rename_i e; subst e; cases h'; exact prim_idxS Tryz.func248 (by kernel_rfl) (by kernel_rfl) (by kernel_rfl) (by kernel_rfl)
  split at h'
  · rename_i e; subst e; cases h'; exact prim_indexByte Tryz.func167 (by kernel_rfl) (by kernel_rfl) (by kernel_rfl) (by kernel_rfl)
  · cases h'
theorem hooks : HookOk cfg := by
  intro g id h hh fn c0 ops _ _ _ B0 p s s' a M w _ hs
  have hh : R2.hookT g id = some h := hh
  unfold R2.hookT at hh
  split at hh
  · cases hh; cases hs
  · cases hh
theorem prims : PrimOk cfg := { v := primOk_of primAt, m := (fun f g h => by cases h), hook := hooks }
theorem yes_ok {σ : List O} {p : List Nat} : runF cfg 5 [] σ p = some (.b true, σ) := run_prim rfl rfl
theorem up {f : Nat} {args : List V} {σ : List O} {p : List Nat} {r : V × List O} (h : runF R2.cfg f args σ p = some r) : runF cfg f args σ p = some r := by
  refine runF_more (fun f g h => ?_) (fun f h1 h2 h3 => ?_) (fun f g _ h => by cases h) h
  · have h : R2.primT f = some g := h
    unfold R2.primT at h
    split at h
    · rename_i e; subst e; exact h
    split at h
    · rename_i e; subst e; exact h
    · cases h
  · have h1 : R2.primT f = none := h1
    have h3 : R2.barT f = false := h3
    simp only [R2.barT, Bool.or_eq_false_iff, beq_eq_false_iff_ne, ne_eq] at h3
    unfold R2.primT at h1
    split at h1
    · cases h1
    rename_i e1
    split at h1
    · cases h1
    · rename_i e2
      refine ⟨?_, ?_⟩
      · unfold primT
        rw [if_neg (by omega), if_neg (by omega), if_neg (by omega), if_neg e1, if_neg e2]
      · simp only [barT, Bool.or_eq_false_iff, beq_eq_false_iff_ne, ne_eq]
        omega
end Go.Am.R2L
