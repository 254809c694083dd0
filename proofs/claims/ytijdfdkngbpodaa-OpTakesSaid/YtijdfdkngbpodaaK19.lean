/- Changes out of bytes: by the program. -/
import Derived.Test.YtijdfdkngbpodaaK18
namespace Go.Am.R1
open Go.Proofs
set_option maxRecDepth 100000
set_option linter.unusedSimpArgs false
set_option linter.unusedVariables false
variable {σ : List O} {p : List Nat}
/-- A text is read: it, what is left, and whether it wasn't there. -/
def rd (l : List Int) (bad : Bool) (w : Nat) : ByteArray × List Int × Bool :=
  if bad then (.empty, l, true) else match textN l 0 w with
    | some n => (str ((l.take (w + n)).drop w), l.drop (w + n), false)
    | none => (.empty, l, true)
theorem rd_mem {l : List Int} {bad : Bool} {w : Nat} : ∀ x ∈ (rd l bad w).2.1, x ∈ l := by
  unfold rd
  split
  · exact fun x h => h
  · split
    · exact fun x h => List.mem_of_mem_drop h
    · exact fun x h => h
theorem rd_len {l : List Int} {bad : Bool} {w : Nat} : (rd l bad w).2.1.length ≤ l.length := by
  unfold rd
  split
  · exact Nat.le_refl _
  · split
    · simp
    · exact Nat.le_refl _
theorem rd_step {l : List Int} (hl : ∀ x ∈ l, 0 ≤ x ∧ x ≤ 255) (hn : l.length ≤ 140737488355328) (w : Nat) (wi : Int) (hwi : wi = (w : Int)) (hw : 1 ≤ w) (hw2 : w ≤ 2) {y : V} (hy : ∀ L, View (σ ++ L) y (ints .u8 l)) (hi : ∀ r, σ.length ≤ r → notIn r y) (bad : Bool) :
    ∃ y', (∀ L, View (σ ++ L) y' (ints .u8 (rd l bad w).2.1)) ∧ (∀ r, σ.length ≤ r → notIn r y') ∧
      ∀ A B st p, runF cfg 72 [.ptr (σ.length + 2) st 0, .i .i64 wi] (σ ++ [A, B, .cells st [y, .b bad]]) p = some (.s (rd l bad w).1, σ ++ [A, B, .cells st [y', .b (rd l bad w).2.2]]) := by
  subst hwi
  by_cases h : bad = true ∨ textN l 0 w = none
  · have hr : rd l bad w = (.empty, l, true) := by
      unfold rd
      rcases h with h | h
      · rw [if_pos h]
      · rw [h]; split <;> rfl
    rw [hr]
    refine ⟨y, hy, hi, fun A B st p => ?_⟩
    have := text_bad (σ := σ ++ [A, B, .cells st [y, .b bad]]) (p := p) l hl hn w hw hw2 (r := σ.length + 2) (st := st) (y := y) (bad := bad) (by rw [rowAt_app]; simp [rowAt]) (hy _) h
    rw [this, set_app]; rfl
  · obtain ⟨h1, h2⟩ := not_or.1 h
    have hb : bad = false := by simpa using h1
    subst hb
    obtain ⟨n, hn'⟩ := Option.ne_none_iff_exists'.1 h2
    have hr : rd l false w = (str ((l.take (w + n)).drop w), l.drop (w + n), false) := by
      unfold rd; rw [hn']; rfl
    rw [hr]
    have key := fun (A B : O) (st : List Nat) => text_good (σ := σ ++ [A, B, .cells st [y, .b false]]) l hl hn w n hw hw2 (r := σ.length + 2) (st := st) (y := y) (by rw [rowAt_app]; simp [rowAt]) (hy _) hn'
    obtain ⟨y', g1, g2, g3, g4⟩ := key .dead .dead []
    refine ⟨y', fun L => g3 _ (hy L), fun r hr => g2 r (hi r hr), fun A B st p => ?_⟩
    obtain ⟨y2, k1, k2, k3, k4⟩ := key A B st
    obtain rfl : y' = y2 := Option.some.inj (g1.symm.trans k1)
    rw [k4, set_app]; rfl
theorem view_notIn {x : V} {cs : List V} (h : View σ x cs) {r : Nat} (hr : σ.length ≤ r) : notIn r x := by
  refine h.cases (fun h1 _ => by subst h1; trivial) (fun cl h1 => by subst h1; trivial) (fun r' st o cap row h1 _ h2 _ _ => ?_)
  subst h1
  have := rowAt_lt h2
  show r ≠ r'
  omega
/-- The change of bytes, if it is one. -/
def takeR (l : List Int) : OpR × Bool :=
  let a := rd (l.drop 7) false 1
  let b := rd a.2.1 a.2.2 1
  let c := rd b.2.1 b.2.2 2
  let x : OpR := ⟨l.getD 0 0, l.getD 1 0, a.1, l.getD 2 0, b.1, l.getD 3 0, l.getD 4 0, (le ((l.take 7).drop 5) : Nat), c.1⟩
  (x, !(c.2.2 || decide (0 < c.2.1.length)) && rightB x)
def op0 : List V := [.i .i64 0, .i .i64 0, .s .empty, .i .i64 0, .s .empty, .i .i64 0, .i .i64 0, .i .i64 0, .s .empty]
def takeV (l : List Int) : List V :=
  if l.length < 7 then [.agg op0, .i .i64 15] else if (takeR l).2 then [.agg (opV (takeR l).1), .i .i64 0] else [.agg op0, .i .i64 15]
theorem otake_ok (l : List Int) (hl : ∀ x ∈ l, 0 ≤ x ∧ x ≤ 255) (hn : l.length ≤ 140737488355328) {x : V} (hx : View σ x (ints .u8 l)) : runF cfg 26 [x] σ p = some (.tup (takeV l), σ) := by
  refine run_done rfl rfl Try.func26 rfl ?_
  have hln : ∀ L, lenA cfg 22 (σ ++ L) x = some (.i .i64 l.length) := fun L => by have := (hx.app L).len sh22; rwa [ints_len] at this
  by_cases h7 : l.length < 7
  · have h7' : (l.length : Int) < 7 := by omega
    simp +contextual (disch := first | omega | exact rfl | decide | assumption | exact one_b | exact one_i | exact one_sl | exact one_s | exact one_arr | exact one_ptr | (simp only [List.length_cons, List.length_nil, List.length_set, List.length_append, ints_len, bools_len] <;> omega) | (simp only [List.map_cons, List.map_nil, fk_i, fk_s, fk_b, List.map_append, List.cons_append, List.nil_append]) | (simp only [List.all_cons, List.all_nil, one_nilp, one_nils, one_nilf, one_nili, one_nilm, one_iptr, one_fn, one_iface, one_b, one_i, one_s, one_sl, one_arr, one_ptr, Bool.and_self, Bool.and_true, Bool.true_and] <;> assumption)) only [Try.f26, Wp_seq, Wp_region, Wp_cond, Wp_skip, Wp_ret, Wp_exit, Wp_label, Wp_block, Wp_scope, thenQ_normal, thenQ_exit, thenQ_ret, blockQ_normal, blockQ_exit, blockQ_ret, upQ_normal, upQ_exit, upQ_ret, downQ_normal, downQ_exit, downQ_ret, Ops_cons, Ops_nil, Step_op, Step_call, SOp, SCall_fn, OptQ_some, OptQ_none, OptQ_map, OptQ_bind, OptQ_ite, Br_b, DoneQ_normal, DoneQ_ret, Step_guard2, GStep_op, GStep_call, callA_fn, GOp, gopt_true, gopt_false, gopt_some, vg_true, vg_false, cg_same, cg_true, cg_false, ↓SOp_pick, PkQ_b, pk_true, pk_false, pk_same, pk_and, pk_or, pk_andn, pk_orn, pk_or2, pk_or3, emp, Int.reduceAdd, Int.reduceSub, Int.reduceMul, Int.reduceNeg, get_app0, get_app, eqB_nil, eqB_cons, scB_i, scB_s, scB_b, all_tt, TrQ_nil, TrQ_cons, accs, touch, touchM, okPair, O.eqb_refl, List.flatMap_cons, List.flatMap_nil, partsAt_nil, partsAt_cons, fill_nil, fill_one, fill_agg, cells_agg, cells_one, splice_all, take_all, List.length_append, List.append_assoc, List.cons_append, rowAt_succ, set_app, set_app0, take_app, take_app2, take_set2, rowAt_app2, List.length_set, one_nilp, one_nils, one_nilf, one_nili, one_nilm, one_iptr, one_fn, one_iface, one_b, one_i, one_s, one_sl, one_arr, one_ptr, List.all_cons, List.all_nil, freezeC_agg, freezeC_ptr, freezeC_nilp, freezeC_nili, frz_agg, frz_int, frz_bool, frz1_s, frz1_nils, frz1_nilp, frz1_nilf, frz1_nili, frz1_nilm, frz1_arr, frz1_ptr, Nat.reduceAdd, Nat.reduceLeDiff, Nat.reduceMul, Nat.reduceSub, isV, opA, guard_of, grdO, grd, List.getElem?_toArray, beq_false, beq_true, decide_true, decide_false, not_true_eq_false, not_false_eq_true, false_implies, true_implies, imp_self, implies_true, or_true, true_or, or_false, false_or, false_and, and_false, or_self, beq_self_eq_true, Bool.and_true, Bool.true_and, Bool.and_false, Bool.false_and, Bool.or_true, Bool.true_or, Bool.or_false, Bool.false_or, Bool.not_eq_false, gt_iff_lt, ge_iff_le, Int.reduceLT, Int.reduceLE, Int.reduceToNat, Int.toNat_natCast, Nat.mul_one, Nat.add_zero, List.getElem?_drop, ints_get', bools_get', Option.isSome_none, Option.isSome_some, Option.isNone_none, Option.isNone_some, Bool.not_eq_true', decide_eq_false_iff_not, Bool.not_true, Bool.not_false, put_mk, put_mk0, ev_tmp, ev_const, ev_func, T.get_set, T_ofList, ofVal_int, ofVal_bool, ofVal_string, ofVal_nils, ofVal_nilp, ofVal_nilm, binA_lss, binA_leq, binA_gtr, binA_geq, binA_eql, binA_neq, binA_sub, binA_add, binA_mul, binA_quo, binA_rem, binA_or, binA_and, binA_xor, binA_seql, binA_sneq, unA_not, toVal_b, toVal_i, builtinP, builtinA, changes, fieldAddrA, resA, tupled, rowAt_app0, foldA_min, foldA_max, rowAt_app, set_app0', rep_bools, rep_ints, set_bools, set_ints, List.length_set, List.length_replicate, Option.bind_none, rowAt_app, rowAt_cons0, take_app, ints_len, bools_len, wrap_i64, IntWalk.i64_quo, IntWalk.rem_in, List.set_cons_zero, List.set_cons_succ, List.nil_append, List.take_length, List.take_nil, List.take_zero, decide_eq_true_eq, Option.getD_some, Option.map_some, Option.map_none, Option.bind_some, List.getElem?_cons_zero, List.getElem?_cons_succ, List.map_cons, List.map_nil, List.length_cons, List.length_nil, Nat.zero_add, ↓reduceIte, Nat.reduceEqDiff, Nat.reduceLT, ne_eq, Int.reduceEq, not_false_eq_true, Option.bind_some, if_false_right, if_true_right, and_true, true_and, Bool.false_eq_true, Bool.true_eq_false, frz_i, frz_b, frz_s, frz_nils, frz_arr, frz_tup, frzC_i, frzC_b, frzC_s, frzC_nils, frzC_arr, sh3, sz3, by3, ag3, kn3, ze3, ld3, li3, sto3, sh4, sz4, by4, ag4, kn4, ze4, ld4, li4, sto4, sh5, sz5, by5, ag5, kn5, ze5, ld5, li5, sto5, sh9, sz9, by9, ag9, kn9, ze9, ld9, li9, sto9, les9, ixs9, sh22, sz22, by22, ag22, kn22, el22, ze22, ld22, li22, sto22, ix22, ia22, mk22, ixi22, iai22, le22, lr22, ln22, sh34, sz34, by34, ag34, kn34, ze34, fk34, eq34, ne34, pl34, lda34, sta34, bd34, fi34x0, fi34x1, fi34x2, fi34x3, fi34x4, fi34x5, fi34x6, fi34x7, fi34x8, sh93, sz93, by93, ag93, kn93, ze93, ld93, li93, sto93, sh94, sz94, by94, ag94, kn94, ze94, ipi94, ixv94, lda94, sta94, bd94, sh98, sz98, by98, ag98, kn98, ze98, pl98, lda98, sta98, bd98, fi98x0, fi98x1, hln, h7', takeV, h7, op0]
  have h7' : ¬ (l.length : Int) < 7 := by omega
  obtain ⟨y0, hy0, hni0, hv0⟩ := view_tail hx sh22 sz5 .i64 7 (by rw [ints_len]; omega)
  have hb : ∀ i : Nat, i < l.length → 0 ≤ l.getD i 0 ∧ l.getD i 0 ≤ 255 := fun i hi => hl _ (by rw [List.getD_eq_getElem?_getD]; simp [hi])
  have at_ : ∀ i : Nat, i < l.length → ∃ a, indexAddrA cfg 22 x (.i .i64 (i : Int)) = some a ∧ ∀ L, loadA cfg 5 (σ ++ L) a = some (.i .u8 (l.getD i 0)) := fun i hi => by
    obtain ⟨a, h1, h2⟩ := hx.at sh22 sz5 ag5 .i64 i (by rw [ints_len]; exact hi)
    exact ⟨a, h1, fun L => by rw [h2 _ _ (hx.app L), ints_get' hi]⟩
  obtain ⟨a0, ha0, hl0⟩ := at_ 0 (by omega)
  obtain ⟨a1, ha1, hl1⟩ := at_ 1 (by omega)
  obtain ⟨a2, ha2, hl2⟩ := at_ 2 (by omega)
  obtain ⟨a3, ha3, hl3⟩ := at_ 3 (by omega)
  obtain ⟨a4, ha4, hl4⟩ := at_ 4 (by omega)
  have hb0 := hb 0 (by omega)
  have hb1 := hb 1 (by omega)
  have hb2 := hb 2 (by omega)
  have hb3 := hb 3 (by omega)
  have hb4 := hb 4 (by omega)
  replace ha0 : indexAddrA cfg 22 x (.i .i64 0) = some a0 := ha0
  replace ha1 : indexAddrA cfg 22 x (.i .i64 1) = some a1 := ha1
  replace ha2 : indexAddrA cfg 22 x (.i .i64 2) = some a2 := ha2
  replace ha3 : indexAddrA cfg 22 x (.i .i64 3) = some a3 := ha3
  replace ha4 : indexAddrA cfg 22 x (.i .i64 4) = some a4 := ha4
  have hoff : ∀ L q, runF cfg 71 [x, .i .i64 5, .i .i64 2] (σ ++ L) q = some (.tup [.i .i64 (le ((l.take 7).drop 5) : Nat), .i .i64 0], σ ++ L) := fun L q => by
    have := wtake_ok (p := q) l hl hn ((5 : Nat) : Int) ((2 : Nat) : Int) (by omega) (hx.app L)
    rw [takeI_in (by omega) (by omega) hl (by omega)] at this
    exact this
  obtain ⟨r1, hr1⟩ : ∃ r, r = rd (l.drop 7) false 1 := ⟨_, rfl⟩
  obtain ⟨r2, hr2⟩ : ∃ r, r = rd r1.2.1 r1.2.2 1 := ⟨_, rfl⟩
  obtain ⟨r3, hr3⟩ : ∃ r, r = rd r2.2.1 r2.2.2 2 := ⟨_, rfl⟩
  have m1 : ∀ x ∈ r1.2.1, x ∈ l := fun x h => by rw [hr1] at h; exact List.mem_of_mem_drop (rd_mem x h)
  have m2 : ∀ x ∈ r2.2.1, x ∈ l := fun x h => by rw [hr2] at h; exact m1 x (rd_mem x h)
  have k1 : r1.2.1.length ≤ l.length := by rw [hr1]; exact Nat.le_trans rd_len (by rw [List.length_drop]; omega)
  have k2 : r2.2.1.length ≤ l.length := by rw [hr2]; exact Nat.le_trans rd_len k1
  obtain ⟨y1, v1, n1, c1⟩ := rd_step (σ := σ) (l := l.drop 7) (fun x h => hl x (List.mem_of_mem_drop h)) (by rw [List.length_drop]; omega) 1 1 rfl (by omega) (by omega) (y := y0) (fun L => by have := hv0 _ _ (hx.app L); rwa [ints_drop] at this) (fun r hr => hni0 r (view_notIn hx hr)) false
  rw [← hr1] at v1 c1
  obtain ⟨y2, v2, n2, c2⟩ := rd_step (σ := σ) (l := r1.2.1) (fun x h => hl x (m1 x h)) (by omega) 1 1 rfl (by omega) (by omega) v1 n1 r1.2.2
  rw [← hr2] at v2 c2
  obtain ⟨y3, v3, n3, c3⟩ := rd_step (σ := σ) (l := r2.2.1) (fun x h => hl x (m2 x h)) (by omega) 2 2 rfl (by omega) (by omega) v2 n2 r2.2.2
  rw [← hr3] at v3 c3
  replace hy0 : sliceA cfg 22 x (some (.i .i64 7)) none none = some y0 := hy0
  have hone0 : y0.one = true := view_one (hv0 σ _ hx)
  have hln3 : ∀ L, lenA cfg 22 (σ ++ L) y3 = some (.i .i64 r3.2.1.length) := fun L => by have := (v3 L).len sh22; rwa [ints_len] at this
  have hrt := fun (σ : List O) p => right_ok (σ := σ) (p := p) ⟨l.getD 0 0, l.getD 1 0, r1.1, l.getD 2 0, r2.1, l.getD 3 0, l.getD 4 0, (le ((l.take 7).drop 5) : Nat), r3.1⟩
  simp only [opV] at hrt
  simp +contextual (disch := first | omega | exact rfl | decide | assumption | exact one_b | exact one_i | exact one_sl | exact one_s | exact one_arr | exact one_ptr | (simp only [List.length_cons, List.length_nil, List.length_set, List.length_append, ints_len, bools_len] <;> omega) | (simp only [List.map_cons, List.map_nil, fk_i, fk_s, fk_b, List.map_append, List.cons_append, List.nil_append]) | (simp only [List.all_cons, List.all_nil, one_nilp, one_nils, one_nilf, one_nili, one_nilm, one_iptr, one_fn, one_iface, one_b, one_i, one_s, one_sl, one_arr, one_ptr, Bool.and_self, Bool.and_true, Bool.true_and] <;> assumption)) only [Try.f26, Wp_seq, Wp_region, Wp_cond, Wp_skip, Wp_ret, Wp_exit, Wp_label, Wp_block, Wp_scope, thenQ_normal, thenQ_exit, thenQ_ret, blockQ_normal, blockQ_exit, blockQ_ret, upQ_normal, upQ_exit, upQ_ret, downQ_normal, downQ_exit, downQ_ret, Ops_cons, Ops_nil, Step_op, Step_call, SOp, SCall_fn, OptQ_some, OptQ_none, OptQ_map, OptQ_bind, OptQ_ite, Br_b, DoneQ_normal, DoneQ_ret, Step_guard2, GStep_op, GStep_call, callA_fn, GOp, gopt_true, gopt_false, gopt_some, vg_true, vg_false, cg_same, cg_true, cg_false, ↓SOp_pick, PkQ_b, pk_true, pk_false, pk_same, pk_and, pk_or, pk_andn, pk_orn, pk_or2, pk_or3, emp, Int.reduceAdd, Int.reduceSub, Int.reduceMul, Int.reduceNeg, get_app0, get_app, eqB_nil, eqB_cons, scB_i, scB_s, scB_b, all_tt, TrQ_nil, TrQ_cons, accs, touch, touchM, okPair, O.eqb_refl, List.flatMap_cons, List.flatMap_nil, partsAt_nil, partsAt_cons, fill_nil, fill_one, fill_agg, cells_agg, cells_one, splice_all, take_all, List.length_append, List.append_assoc, List.cons_append, rowAt_succ, set_app, set_app0, take_app, take_app2, take_set2, rowAt_app2, List.length_set, one_nilp, one_nils, one_nilf, one_nili, one_nilm, one_iptr, one_fn, one_iface, one_b, one_i, one_s, one_sl, one_arr, one_ptr, List.all_cons, List.all_nil, freezeC_agg, freezeC_ptr, freezeC_nilp, freezeC_nili, frz_agg, frz_int, frz_bool, frz1_s, frz1_nils, frz1_nilp, frz1_nilf, frz1_nili, frz1_nilm, frz1_arr, frz1_ptr, Nat.reduceAdd, Nat.reduceLeDiff, Nat.reduceMul, Nat.reduceSub, isV, opA, guard_of, grdO, grd, List.getElem?_toArray, beq_false, beq_true, decide_true, decide_false, not_true_eq_false, not_false_eq_true, false_implies, true_implies, imp_self, implies_true, or_true, true_or, or_false, false_or, false_and, and_false, or_self, beq_self_eq_true, Bool.and_true, Bool.true_and, Bool.and_false, Bool.false_and, Bool.or_true, Bool.true_or, Bool.or_false, Bool.false_or, Bool.not_eq_false, gt_iff_lt, ge_iff_le, Int.reduceLT, Int.reduceLE, Int.reduceToNat, Int.toNat_natCast, Nat.mul_one, Nat.add_zero, List.getElem?_drop, ints_get', bools_get', Option.isSome_none, Option.isSome_some, Option.isNone_none, Option.isNone_some, Bool.not_eq_true', decide_eq_false_iff_not, Bool.not_true, Bool.not_false, put_mk, put_mk0, ev_tmp, ev_const, ev_func, T.get_set, T_ofList, ofVal_int, ofVal_bool, ofVal_string, ofVal_nils, ofVal_nilp, ofVal_nilm, binA_lss, binA_leq, binA_gtr, binA_geq, binA_eql, binA_neq, binA_sub, binA_add, binA_mul, binA_quo, binA_rem, binA_or, binA_and, binA_xor, binA_seql, binA_sneq, unA_not, toVal_b, toVal_i, builtinP, builtinA, changes, fieldAddrA, resA, tupled, rowAt_app0, foldA_min, foldA_max, rowAt_app, set_app0', rep_bools, rep_ints, set_bools, set_ints, List.length_set, List.length_replicate, Option.bind_none, rowAt_app, rowAt_cons0, take_app, ints_len, bools_len, wrap_i64, IntWalk.i64_quo, IntWalk.rem_in, List.set_cons_zero, List.set_cons_succ, List.nil_append, List.take_length, List.take_nil, List.take_zero, decide_eq_true_eq, Option.getD_some, Option.map_some, Option.map_none, Option.bind_some, List.getElem?_cons_zero, List.getElem?_cons_succ, List.map_cons, List.map_nil, List.length_cons, List.length_nil, Nat.zero_add, ↓reduceIte, Nat.reduceEqDiff, Nat.reduceLT, ne_eq, Int.reduceEq, not_false_eq_true, Option.bind_some, if_false_right, if_true_right, and_true, true_and, Bool.false_eq_true, Bool.true_eq_false, frz_i, frz_b, frz_s, frz_nils, frz_arr, frz_tup, frzC_i, frzC_b, frzC_s, frzC_nils, frzC_arr, sh3, sz3, by3, ag3, kn3, ze3, ld3, li3, sto3, sh4, sz4, by4, ag4, kn4, ze4, ld4, li4, sto4, sh5, sz5, by5, ag5, kn5, ze5, ld5, li5, sto5, sh9, sz9, by9, ag9, kn9, ze9, ld9, li9, sto9, les9, ixs9, sh22, sz22, by22, ag22, kn22, el22, ze22, ld22, li22, sto22, ix22, ia22, mk22, ixi22, iai22, le22, lr22, ln22, sh34, sz34, by34, ag34, kn34, ze34, fk34, eq34, ne34, pl34, lda34, sta34, bd34, fi34x0, fi34x1, fi34x2, fi34x3, fi34x4, fi34x5, fi34x6, fi34x7, fi34x8, sh93, sz93, by93, ag93, kn93, ze93, ld93, li93, sto93, sh94, sz94, by94, ag94, kn94, ze94, ipi94, ixv94, lda94, sta94, bd94, sh98, sz98, by98, ag98, kn98, ze98, pl98, lda98, sta98, bd98, fi98x0, fi98x1, hln, h7', Wq_loop, loopQ_normal, loopQ_exit, loopQ_ret, ha0, ha1, ha2, ha3, ha4, hl0, hl1, hl2, hl3, hl4, derefA, convertP, hy0, hoff, c1, c2, c3, hln3, hrt]
  refine ⟨hone0, ?_⟩
  have e : decide (0 < (r3.2.1.length : Int)) = decide (0 < r3.2.1.length) := decide_eq_decide.2 (by omega)
  simp only [takeV, if_neg h7, takeR, ← hr1, ← hr2, ← hr3, e]
  generalize hB : rightB _ = rb
  generalize decide (0 < r3.2.1.length) = d
  cases r3.2.2 <;> cases d <;> cases rb <;> simp [opV, op0]
end Go.Am.R1
