/- Changes out of bytes: by the document. -/
import Derived.Test.YtijdfdkngbpodaaK19
namespace Go.Am.R1
open Go.Proofs
set_option maxRecDepth 100000
set_option linter.unusedSimpArgs false
set_option linter.unusedVariables false
variable {σ : List O} {p : List Nat}
theorem rtext_neg (w : Int) (l : List Int) {x : V} : runF cfg 73 [x, .i .i64 (-1), .i .i64 w] σ p = some (.tup [.s .empty, .i .i64 (-1)], σ) := by
  refine run_done rfl rfl Try.func73 rfl ?_
  simp +contextual (disch := first | omega | exact rfl | decide | assumption | exact one_b | exact one_i | exact one_sl | exact one_s | exact one_arr | exact one_ptr | (simp only [List.length_cons, List.length_nil, List.length_set, List.length_append, ints_len, bools_len] <;> omega) | (simp only [List.map_cons, List.map_nil, fk_i, fk_s, fk_b, List.map_append, List.cons_append, List.nil_append]) | (simp only [List.all_cons, List.all_nil, one_nilp, one_nils, one_nilf, one_nili, one_nilm, one_iptr, one_fn, one_iface, one_b, one_i, one_s, one_sl, one_arr, one_ptr, Bool.and_self, Bool.and_true, Bool.true_and] <;> assumption)) only [Try.f73, Wp_seq, Wp_region, Wp_cond, Wp_skip, Wp_ret, Wp_exit, Wp_label, Wp_block, Wp_scope, thenQ_normal, thenQ_exit, thenQ_ret, blockQ_normal, blockQ_exit, blockQ_ret, upQ_normal, upQ_exit, upQ_ret, downQ_normal, downQ_exit, downQ_ret, Ops_cons, Ops_nil, Step_op, Step_call, SOp, SCall_fn, OptQ_some, OptQ_none, OptQ_map, OptQ_bind, OptQ_ite, Br_b, DoneQ_normal, DoneQ_ret, Step_guard2, GStep_op, GStep_call, callA_fn, GOp, gopt_true, gopt_false, gopt_some, vg_true, vg_false, cg_same, cg_true, cg_false, ↓SOp_pick, PkQ_b, pk_true, pk_false, pk_same, pk_and, pk_or, pk_andn, pk_orn, pk_or2, pk_or3, emp, Int.reduceAdd, Int.reduceSub, Int.reduceMul, Int.reduceNeg, get_app0, get_app, eqB_nil, eqB_cons, scB_i, scB_s, scB_b, all_tt, TrQ_nil, TrQ_cons, accs, touch, touchM, okPair, O.eqb_refl, List.flatMap_cons, List.flatMap_nil, partsAt_nil, partsAt_cons, fill_nil, fill_one, fill_agg, cells_agg, cells_one, splice_all, take_all, List.length_append, List.append_assoc, List.cons_append, rowAt_succ, set_app, set_app0, take_app, take_app2, take_set2, rowAt_app2, List.length_set, one_nilp, one_nils, one_nilf, one_nili, one_nilm, one_iptr, one_fn, one_iface, one_b, one_i, one_s, one_sl, one_arr, one_ptr, List.all_cons, List.all_nil, freezeC_agg, freezeC_ptr, freezeC_nilp, freezeC_nili, frz_agg, frz_int, frz_bool, frz1_s, frz1_nils, frz1_nilp, frz1_nilf, frz1_nili, frz1_nilm, frz1_arr, frz1_ptr, Nat.reduceAdd, Nat.reduceLeDiff, Nat.reduceMul, Nat.reduceSub, isV, opA, guard_of, grdO, grd, List.getElem?_toArray, beq_false, beq_true, decide_true, decide_false, not_true_eq_false, not_false_eq_true, false_implies, true_implies, imp_self, implies_true, or_true, true_or, or_false, false_or, false_and, and_false, or_self, beq_self_eq_true, Bool.and_true, Bool.true_and, Bool.and_false, Bool.false_and, Bool.or_true, Bool.true_or, Bool.or_false, Bool.false_or, Bool.not_eq_false, gt_iff_lt, ge_iff_le, Int.reduceLT, Int.reduceLE, Int.reduceToNat, Int.toNat_natCast, Nat.mul_one, Nat.add_zero, List.getElem?_drop, ints_get', bools_get', Option.isSome_none, Option.isSome_some, Option.isNone_none, Option.isNone_some, Bool.not_eq_true', decide_eq_false_iff_not, Bool.not_true, Bool.not_false, put_mk, put_mk0, ev_tmp, ev_const, ev_func, T.get_set, T_ofList, ofVal_int, ofVal_bool, ofVal_string, ofVal_nils, ofVal_nilp, ofVal_nilm, binA_lss, binA_leq, binA_gtr, binA_geq, binA_eql, binA_neq, binA_sub, binA_add, binA_mul, binA_quo, binA_rem, binA_or, binA_and, binA_xor, binA_seql, binA_sneq, unA_not, toVal_b, toVal_i, builtinP, builtinA, changes, fieldAddrA, resA, tupled, rowAt_app0, foldA_min, foldA_max, rowAt_app, set_app0', rep_bools, rep_ints, set_bools, set_ints, List.length_set, List.length_replicate, Option.bind_none, rowAt_app, rowAt_cons0, take_app, ints_len, bools_len, wrap_i64, IntWalk.i64_quo, IntWalk.rem_in, List.set_cons_zero, List.set_cons_succ, List.nil_append, List.take_length, List.take_nil, List.take_zero, decide_eq_true_eq, Option.getD_some, Option.map_some, Option.map_none, Option.bind_some, List.getElem?_cons_zero, List.getElem?_cons_succ, List.map_cons, List.map_nil, List.length_cons, List.length_nil, Nat.zero_add, ↓reduceIte, Nat.reduceEqDiff, Nat.reduceLT, ne_eq, Int.reduceEq, not_false_eq_true, Option.bind_some, if_false_right, if_true_right, and_true, true_and, Bool.false_eq_true, Bool.true_eq_false, frz_i, frz_b, frz_s, frz_nils, frz_arr, frz_tup, frzC_i, frzC_b, frzC_s, frzC_nils, frzC_arr, sh3, sz3, by3, ag3, kn3, ze3, ld3, li3, sto3, sh5, sz5, by5, ag5, kn5, ze5, ld5, li5, sto5, sh9, sz9, by9, ag9, kn9, ze9, ld9, li9, sto9, les9, ixs9, sh22, sz22, by22, ag22, kn22, el22, ze22, ld22, li22, sto22, ix22, ia22, mk22, ixi22, iai22, le22, lr22, ln22, sh25, sz25, by25, ag25, kn25, ze25, ld25, li25, sto25]
theorem textN_drop {l : List Int} {a w : Nat} (ha : a ≤ l.length) : textN (l.drop a) 0 w = textN l a w := by
  have e1 : ((l.drop a).take (0 + w)).drop 0 = (l.take (a + w)).drop a := by
    rw [List.drop_zero, Nat.zero_add, List.drop_take]; congr 1; omega
  unfold textN
  simp only [e1, List.length_drop]
  generalize le ((l.take (a + w)).drop a) = n
  by_cases h : a + w ≤ l.length
  · rw [if_pos h, if_pos (by omega)]
    by_cases h2 : a + w + n ≤ l.length
    · rw [if_pos h2, if_pos (by omega)]
    · rw [if_neg h2, if_neg (by omega)]
  · rw [if_neg h, if_neg (by omega)]
theorem textN_le {l : List Int} {a w n : Nat} (h : textN l a w = some n) : a + w + n ≤ l.length := by
  unfold textN at h
  split at h
  · simp only at h
    split at h
    · cases h; assumption
    · cases h
  · cases h
theorem rt_step {l : List Int} (hl : ∀ x ∈ l, 0 ≤ x ∧ x ≤ 255) (hn : l.length ≤ 140737488355328) (w : Nat) (wi : Int) (hwi : wi = (w : Int)) (hw : 1 ≤ w) (hw2 : w ≤ 2) (a : Nat) (ha : a ≤ l.length) (bad : Bool) :
    ∃ a', a' ≤ l.length ∧ (rd (l.drop a) bad w).2.1 = l.drop a' ∧ ∀ (σ : List O) (x : V) (p : List Nat), View σ x (ints .u8 l) →
      runF cfg 73 [x, .i .i64 (if bad = true then -1 else (a : Int)), .i .i64 wi] σ p = some (.tup [.s (rd (l.drop a) bad w).1, .i .i64 (if (rd (l.drop a) bad w).2.2 = true then -1 else (a' : Int))], σ) := by
  subst hwi
  cases bad with
  | true =>
    refine ⟨a, ha, rfl, fun σ x p hx => ?_⟩
    simp only [rd, if_true]
    exact rtext_neg _ l
  | false =>
    simp only [rd, Bool.false_eq_true, if_false, textN_drop ha]
    cases ht : textN l a w with
    | none =>
      refine ⟨a, ha, rfl, fun σ x p hx => ?_⟩
      have := rtext_ok (p := p) l hl hn a w ha hw hw2 hx
      rw [ht] at this
      simpa using this
    | some n =>
      have hle := textN_le ht
      refine ⟨a + w + n, hle, by simp [List.drop_drop, Nat.add_assoc], fun σ x p hx => ?_⟩
      have := rtext_ok (p := p) l hl hn a w ha hw hw2 hx
      rw [ht] at this
      have e1 : ((l.drop a).take (w + n)).drop w = (l.take (a + w + n)).drop (a + w) := by
        rw [List.take_drop, List.drop_drop, Nat.add_assoc]
      simp only [e1, Bool.false_eq_true, if_false]
      exact this
theorem le_two {l : List Int} (hl : ∀ x ∈ l, 0 ≤ x ∧ x ≤ 255) (h : 7 ≤ l.length) : ((le ((l.take 7).drop 5) : Nat) : Int) = l.getD 5 0 + 256 * l.getD 6 0 := by
  obtain ⟨b0, b1, b2, b3, b4, b5, b6, m, rfl⟩ : ∃ b0 b1 b2 b3 b4 b5 b6 m, l = b0 :: b1 :: b2 :: b3 :: b4 :: b5 :: b6 :: m := by
    match l, h with
    | b0 :: b1 :: b2 :: b3 :: b4 :: b5 :: b6 :: m, _ => exact ⟨_, _, _, _, _, _, _, _, rfl⟩
  have h5 := hl b5 (by simp)
  have h6 := hl b6 (by simp)
  simp [le]
  omega
theorem rtake20_short (l : List Int) {x : V} (hx : View σ x (ints .u8 l)) (h7 : l.length < 7) : runF cfg 27 [x] σ p = some (.tup (takeV l), σ) := by
  refine run_done rfl rfl Try.func27 rfl ?_
  have hln : ∀ L, lenA cfg 22 (σ ++ L) x = some (.i .i64 l.length) := fun L => by have := (hx.app L).len sh22; rwa [ints_len] at this
  have h7' : (l.length : Int) < 7 := by omega
  simp +contextual (disch := first | omega | exact rfl | decide | assumption | exact one_b | exact one_i | exact one_sl | exact one_s | exact one_arr | exact one_ptr | (simp only [List.length_cons, List.length_nil, List.length_set, List.length_append, ints_len, bools_len] <;> omega) | (simp only [List.map_cons, List.map_nil, fk_i, fk_s, fk_b, List.map_append, List.cons_append, List.nil_append]) | (simp only [List.all_cons, List.all_nil, one_nilp, one_nils, one_nilf, one_nili, one_nilm, one_iptr, one_fn, one_iface, one_b, one_i, one_s, one_sl, one_arr, one_ptr, Bool.and_self, Bool.and_true, Bool.true_and] <;> assumption)) only [Try.f27, Wp_seq, Wp_region, Wp_cond, Wp_skip, Wp_ret, Wp_exit, Wp_label, Wp_block, Wp_scope, thenQ_normal, thenQ_exit, thenQ_ret, blockQ_normal, blockQ_exit, blockQ_ret, upQ_normal, upQ_exit, upQ_ret, downQ_normal, downQ_exit, downQ_ret, Ops_cons, Ops_nil, Step_op, Step_call, SOp, SCall_fn, OptQ_some, OptQ_none, OptQ_map, OptQ_bind, OptQ_ite, Br_b, DoneQ_normal, DoneQ_ret, Step_guard2, GStep_op, GStep_call, callA_fn, GOp, gopt_true, gopt_false, gopt_some, vg_true, vg_false, cg_same, cg_true, cg_false, ↓SOp_pick, PkQ_b, pk_true, pk_false, pk_same, pk_and, pk_or, pk_andn, pk_orn, pk_or2, pk_or3, emp, Int.reduceAdd, Int.reduceSub, Int.reduceMul, Int.reduceNeg, get_app0, get_app, eqB_nil, eqB_cons, scB_i, scB_s, scB_b, all_tt, TrQ_nil, TrQ_cons, accs, touch, touchM, okPair, O.eqb_refl, List.flatMap_cons, List.flatMap_nil, partsAt_nil, partsAt_cons, fill_nil, fill_one, fill_agg, cells_agg, cells_one, splice_all, take_all, List.length_append, List.append_assoc, List.cons_append, rowAt_succ, set_app, set_app0, take_app, take_app2, take_set2, rowAt_app2, List.length_set, one_nilp, one_nils, one_nilf, one_nili, one_nilm, one_iptr, one_fn, one_iface, one_b, one_i, one_s, one_sl, one_arr, one_ptr, List.all_cons, List.all_nil, freezeC_agg, freezeC_ptr, freezeC_nilp, freezeC_nili, frz_agg, frz_int, frz_bool, frz1_s, frz1_nils, frz1_nilp, frz1_nilf, frz1_nili, frz1_nilm, frz1_arr, frz1_ptr, Nat.reduceAdd, Nat.reduceLeDiff, Nat.reduceMul, Nat.reduceSub, isV, opA, guard_of, grdO, grd, List.getElem?_toArray, beq_false, beq_true, decide_true, decide_false, not_true_eq_false, not_false_eq_true, false_implies, true_implies, imp_self, implies_true, or_true, true_or, or_false, false_or, false_and, and_false, or_self, beq_self_eq_true, Bool.and_true, Bool.true_and, Bool.and_false, Bool.false_and, Bool.or_true, Bool.true_or, Bool.or_false, Bool.false_or, Bool.not_eq_false, gt_iff_lt, ge_iff_le, Int.reduceLT, Int.reduceLE, Int.reduceToNat, Int.toNat_natCast, Nat.mul_one, Nat.add_zero, List.getElem?_drop, ints_get', bools_get', Option.isSome_none, Option.isSome_some, Option.isNone_none, Option.isNone_some, Bool.not_eq_true', decide_eq_false_iff_not, Bool.not_true, Bool.not_false, put_mk, put_mk0, ev_tmp, ev_const, ev_func, T.get_set, T_ofList, ofVal_int, ofVal_bool, ofVal_string, ofVal_nils, ofVal_nilp, ofVal_nilm, binA_lss, binA_leq, binA_gtr, binA_geq, binA_eql, binA_neq, binA_sub, binA_add, binA_mul, binA_quo, binA_rem, binA_or, binA_and, binA_xor, binA_seql, binA_sneq, unA_not, toVal_b, toVal_i, builtinP, builtinA, changes, fieldAddrA, resA, tupled, rowAt_app0, foldA_min, foldA_max, rowAt_app, set_app0', rep_bools, rep_ints, set_bools, set_ints, List.length_set, List.length_replicate, Option.bind_none, rowAt_app, rowAt_cons0, take_app, ints_len, bools_len, wrap_i64, IntWalk.i64_quo, IntWalk.rem_in, List.set_cons_zero, List.set_cons_succ, List.nil_append, List.take_length, List.take_nil, List.take_zero, decide_eq_true_eq, Option.getD_some, Option.map_some, Option.map_none, Option.bind_some, List.getElem?_cons_zero, List.getElem?_cons_succ, List.map_cons, List.map_nil, List.length_cons, List.length_nil, Nat.zero_add, ↓reduceIte, Nat.reduceEqDiff, Nat.reduceLT, ne_eq, Int.reduceEq, not_false_eq_true, Option.bind_some, if_false_right, if_true_right, and_true, true_and, Bool.false_eq_true, Bool.true_eq_false, frz_i, frz_b, frz_s, frz_nils, frz_arr, frz_tup, frzC_i, frzC_b, frzC_s, frzC_nils, frzC_arr, dr27x3, sh3, sz3, by3, ag3, kn3, ze3, ld3, li3, sto3, sh5, sz5, by5, ag5, kn5, ze5, ld5, li5, sto5, sh9, sz9, by9, ag9, kn9, ze9, ld9, li9, sto9, les9, ixs9, sh22, sz22, by22, ag22, kn22, el22, ze22, ld22, li22, sto22, ix22, ia22, mk22, ixi22, iai22, le22, lr22, ln22, sh34, sz34, by34, ag34, kn34, ze34, fk34, eq34, ne34, pl34, lda34, sta34, bd34, fi34x0, fi34x1, fi34x2, fi34x3, fi34x4, fi34x5, fi34x6, fi34x7, fi34x8, hln, h7', takeV, h7, op0]
theorem rtake20_ok (l : List Int) (hl : ∀ x ∈ l, 0 ≤ x ∧ x ≤ 255) (hn : l.length ≤ 140737488355328) (cl : Bool) (h7 : 7 ≤ l.length) : runF cfg 27 [.arr (ints .u8 l) l.length cl] σ p = some (.tup (takeV l), σ) := by
  refine run_done rfl rfl Try.func27 rfl ?_
  have h7' : ¬ (l.length : Int) < 7 := by omega
  have hb : ∀ i : Nat, i < l.length → 0 ≤ l.getD i 0 ∧ l.getD i 0 ≤ 255 := fun i hi => hl _ (by rw [List.getD_eq_getElem?_getD]; simp [hi])
  have hb0 := hb 0 (by omega)
  have hb1 := hb 1 (by omega)
  have hb2 := hb 2 (by omega)
  have hb3 := hb 3 (by omega)
  have hb4 := hb 4 (by omega)
  have hb5 := hb 5 (by omega)
  have hb6 := hb 6 (by omega)
  obtain ⟨r1, hr1⟩ : ∃ r, r = rd (l.drop 7) false 1 := ⟨_, rfl⟩
  obtain ⟨r2, hr2⟩ : ∃ r, r = rd r1.2.1 r1.2.2 1 := ⟨_, rfl⟩
  obtain ⟨r3, hr3⟩ : ∃ r, r = rd r2.2.1 r2.2.2 2 := ⟨_, rfl⟩
  obtain ⟨a1, l1, e1, c1⟩ := rt_step hl hn 1 1 rfl (by omega) (by omega) 7 h7 false
  rw [← hr1] at e1 c1
  obtain ⟨a2, l2, e2, c2⟩ := rt_step hl hn 1 1 rfl (by omega) (by omega) a1 l1 r1.2.2
  rw [← e1, ← hr2] at e2 c2
  obtain ⟨a3, l3, e3, c3⟩ := rt_step hl hn 2 2 rfl (by omega) (by omega) a2 l2 r2.2.2
  rw [← e2, ← hr3] at e3 c3
  have hx : ∀ σ : List O, View σ (.arr (ints .u8 l) l.length cl) (ints .u8 l) := fun σ => View.ints σ .u8 l cl
  replace c1 : ∀ (σ : List O) (p : List Nat), runF cfg 73 [.arr (ints .u8 l) l.length cl, .i .i64 7, .i .i64 1] σ p = some (.tup [.s r1.1, .i .i64 (if r1.2.2 = true then -1 else (a1 : Int))], σ) := fun σ p => c1 σ _ p (hx σ)
  replace c2 := fun σ p => c2 σ _ p (hx σ)
  replace c3 := fun σ p => c3 σ _ p (hx σ)
  have hrt := fun (σ : List O) p => right20_ok (σ := σ) (p := p) ⟨l.getD 0 0, l.getD 1 0, r1.1, l.getD 2 0, r2.1, l.getD 3 0, l.getD 4 0, l.getD 5 0 + 256 * l.getD 6 0, r3.1⟩
  simp only [opV] at hrt
  simp +contextual (disch := first | omega | exact rfl | decide | assumption | exact one_b | exact one_i | exact one_sl | exact one_s | exact one_arr | exact one_ptr | (simp only [List.length_cons, List.length_nil, List.length_set, List.length_append, ints_len, bools_len] <;> omega) | (simp only [List.map_cons, List.map_nil, fk_i, fk_s, fk_b, List.map_append, List.cons_append, List.nil_append]) | (simp only [List.all_cons, List.all_nil, one_nilp, one_nils, one_nilf, one_nili, one_nilm, one_iptr, one_fn, one_iface, one_b, one_i, one_s, one_sl, one_arr, one_ptr, Bool.and_self, Bool.and_true, Bool.true_and] <;> assumption)) only [Try.f27, Wp_seq, Wp_region, Wp_cond, Wp_skip, Wp_ret, Wp_exit, Wp_label, Wp_block, Wp_scope, thenQ_normal, thenQ_exit, thenQ_ret, blockQ_normal, blockQ_exit, blockQ_ret, upQ_normal, upQ_exit, upQ_ret, downQ_normal, downQ_exit, downQ_ret, Ops_cons, Ops_nil, Step_op, Step_call, SOp, SCall_fn, OptQ_some, OptQ_none, OptQ_map, OptQ_bind, OptQ_ite, Br_b, DoneQ_normal, DoneQ_ret, Step_guard2, GStep_op, GStep_call, callA_fn, GOp, gopt_true, gopt_false, gopt_some, vg_true, vg_false, cg_same, cg_true, cg_false, ↓SOp_pick, PkQ_b, pk_true, pk_false, pk_same, pk_and, pk_or, pk_andn, pk_orn, pk_or2, pk_or3, emp, Int.reduceAdd, Int.reduceSub, Int.reduceMul, Int.reduceNeg, get_app0, get_app, eqB_nil, eqB_cons, scB_i, scB_s, scB_b, all_tt, TrQ_nil, TrQ_cons, accs, touch, touchM, okPair, O.eqb_refl, List.flatMap_cons, List.flatMap_nil, partsAt_nil, partsAt_cons, fill_nil, fill_one, fill_agg, cells_agg, cells_one, splice_all, take_all, List.length_append, List.append_assoc, List.cons_append, rowAt_succ, set_app, set_app0, take_app, take_app2, take_set2, rowAt_app2, List.length_set, one_nilp, one_nils, one_nilf, one_nili, one_nilm, one_iptr, one_fn, one_iface, one_b, one_i, one_s, one_sl, one_arr, one_ptr, List.all_cons, List.all_nil, freezeC_agg, freezeC_ptr, freezeC_nilp, freezeC_nili, frz_agg, frz_int, frz_bool, frz1_s, frz1_nils, frz1_nilp, frz1_nilf, frz1_nili, frz1_nilm, frz1_arr, frz1_ptr, Nat.reduceAdd, Nat.reduceLeDiff, Nat.reduceMul, Nat.reduceSub, isV, opA, guard_of, grdO, grd, List.getElem?_toArray, beq_false, beq_true, decide_true, decide_false, not_true_eq_false, not_false_eq_true, false_implies, true_implies, imp_self, implies_true, or_true, true_or, or_false, false_or, false_and, and_false, or_self, beq_self_eq_true, Bool.and_true, Bool.true_and, Bool.and_false, Bool.false_and, Bool.or_true, Bool.true_or, Bool.or_false, Bool.false_or, Bool.not_eq_false, gt_iff_lt, ge_iff_le, Int.reduceLT, Int.reduceLE, Int.reduceToNat, Int.toNat_natCast, Nat.mul_one, Nat.add_zero, List.getElem?_drop, ints_get', bools_get', Option.isSome_none, Option.isSome_some, Option.isNone_none, Option.isNone_some, Bool.not_eq_true', decide_eq_false_iff_not, Bool.not_true, Bool.not_false, put_mk, put_mk0, ev_tmp, ev_const, ev_func, T.get_set, T_ofList, ofVal_int, ofVal_bool, ofVal_string, ofVal_nils, ofVal_nilp, ofVal_nilm, binA_lss, binA_leq, binA_gtr, binA_geq, binA_eql, binA_neq, binA_sub, binA_add, binA_mul, binA_quo, binA_rem, binA_or, binA_and, binA_xor, binA_seql, binA_sneq, unA_not, toVal_b, toVal_i, builtinP, builtinA, changes, fieldAddrA, resA, tupled, rowAt_app0, foldA_min, foldA_max, rowAt_app, set_app0', rep_bools, rep_ints, set_bools, set_ints, List.length_set, List.length_replicate, Option.bind_none, rowAt_app, rowAt_cons0, take_app, ints_len, bools_len, wrap_i64, IntWalk.i64_quo, IntWalk.rem_in, List.set_cons_zero, List.set_cons_succ, List.nil_append, List.take_length, List.take_nil, List.take_zero, decide_eq_true_eq, Option.getD_some, Option.map_some, Option.map_none, Option.bind_some, List.getElem?_cons_zero, List.getElem?_cons_succ, List.map_cons, List.map_nil, List.length_cons, List.length_nil, Nat.zero_add, ↓reduceIte, Nat.reduceEqDiff, Nat.reduceLT, ne_eq, Int.reduceEq, not_false_eq_true, Option.bind_some, if_false_right, if_true_right, and_true, true_and, Bool.false_eq_true, Bool.true_eq_false, frz_i, frz_b, frz_s, frz_nils, frz_arr, frz_tup, frzC_i, frzC_b, frzC_s, frzC_nils, frzC_arr, dr27x3, sh3, sz3, by3, ag3, kn3, ze3, ld3, li3, sto3, sh5, sz5, by5, ag5, kn5, ze5, ld5, li5, sto5, sh9, sz9, by9, ag9, kn9, ze9, ld9, li9, sto9, les9, ixs9, sh22, sz22, by22, ag22, kn22, el22, ze22, ld22, li22, sto22, ix22, ia22, mk22, ixi22, iai22, le22, lr22, ln22, sh34, sz34, by34, ag34, kn34, ze34, fk34, eq34, ne34, pl34, lda34, sta34, bd34, fi34x0, fi34x1, fi34x2, fi34x3, fi34x4, fi34x5, fi34x6, fi34x7, fi34x8, h7', convertP, c1, c2, c3, hrt, Nat.add_zero]
  have e : decide ((if r3.2.2 = true then (-1 : Int) else (a3 : Int)) = (l.length : Int)) = !(r3.2.2 || decide (0 < r3.2.1.length)) := by
    rw [e3, List.length_drop]
    cases r3.2.2
    · rw [Bool.false_or, if_neg (by simp), Bool.eq_iff_iff]; simp; omega
    · rw [Bool.true_or, if_pos rfl]; simp
  simp only [takeV, if_neg (show ¬ l.length < 7 by omega), takeR, ← hr1, ← hr2, ← hr3, e, le_two hl h7]
  generalize hB : rightB _ = rb
  generalize decide (0 < r3.2.1.length) = d
  cases r3.2.2 <;> cases d <;> cases rb <;> simp [opV, op0]
end Go.Am.R1
