/- The law CostMore, over the machine. -/
import Derived.Test.YtijdfdkngbpodaaK4
namespace Go.Am.R1
open Go.Proofs
set_option maxRecDepth 100000
set_option linter.unusedSimpArgs false
set_option linter.unusedVariables false
theorem law4 (l : List Int) (hl : ∀ x ∈ l, 0 ≤ x ∧ x ≤ 255) (hn : l.length ≤ 140737488355328) (a v : Int) (ha : 0 ≤ a ∧ a ≤ 65535) (hv : 0 ≤ v ∧ v ≤ 255) {x : V} (hx : View [] x (ints .u8 l)) :
    runF cfg 4 [x, .i .u16 a, .i .u8 v] [] [] = some (.b true, []) := by
  refine run_done rfl rfl Try.func4 rfl ?_
  have hln := hx.len sh22
  rw [ints_len] at hln
  by_cases h0 : l = []
  · subst h0
    have hln0 : lenA cfg 22 [] x = some (.i .i64 0) := hln
    simp (disch := first | omega | exact rfl | decide | exact one_b | exact one_i | exact one_sl | exact one_s | exact one_arr | exact one_ptr) only [Try.f4, Wp_seq, Wp_region, Wp_cond, Wp_skip, Wp_ret, Wp_exit, Wp_label, Wp_block, Wp_scope, thenQ_normal, thenQ_exit, thenQ_ret, blockQ_normal, blockQ_exit, blockQ_ret, upQ_normal, upQ_exit, upQ_ret, downQ_normal, downQ_exit, downQ_ret, Ops_cons, Ops_nil, Step_op, Step_call, Step_guard, SOp, SCall_fn, OptQ_some, OptQ_none, OptQ_map, OptQ_bind, OptQ_ite, Br_b, DoneQ_normal, DoneQ_ret, isV, opA, guard_of, grdO, grd, List.getElem?_toArray, beq_false, beq_true, decide_true, decide_false, not_true_eq_false, not_false_eq_true, false_implies, true_implies, imp_self, implies_true, or_true, true_or, or_false, false_or, false_and, and_false, or_self, beq_self_eq_true, Bool.and_true, Bool.true_and, Bool.and_false, Bool.false_and, Bool.or_true, Bool.true_or, Bool.or_false, Bool.false_or, Bool.not_eq_false, gt_iff_lt, ge_iff_le, Int.reduceLT, Int.reduceLE, Int.reduceToNat, Int.toNat_natCast, Nat.mul_one, Nat.add_zero, List.getElem?_drop, ints_get', bools_get', Option.isSome_none, Option.isSome_some, Option.isNone_none, Option.isNone_some, Bool.not_eq_true', decide_eq_false_iff_not, Bool.not_true, Bool.not_false, put_mk, put_mk0, ev_tmp, ev_const, ev_func, T.get_set, T_ofList, ofVal_int, ofVal_bool, ofVal_string, ofVal_nils, ofVal_nilp, ofVal_nilm, binA_lss, binA_leq, binA_gtr, binA_geq, binA_eql, binA_neq, binA_sub, binA_add, binA_mul, binA_quo, binA_rem, binA_or, binA_and, binA_xor, binA_seql, binA_sneq, unA_not, toVal_b, toVal_i, builtinP, builtinA, changes, fieldAddrA, resA, tupled, rowAt_app0, foldA_min, foldA_max, rowAt_app, set_app0', rep_bools, rep_ints, set_bools, set_ints, List.length_set, List.length_replicate, Option.bind_none, rowAt_app, rowAt_cons0, take_app, ints_len, bools_len, wrap_i64, IntWalk.i64_quo, IntWalk.rem_in, List.set_cons_zero, List.set_cons_succ, List.nil_append, List.take_length, List.take_nil, List.take_zero, decide_eq_true_eq, Option.getD_some, Option.map_some, Option.map_none, Option.bind_some, List.getElem?_cons_zero, List.getElem?_cons_succ, List.map_cons, List.map_nil, List.length_cons, List.length_nil, Nat.zero_add, ↓reduceIte, Nat.reduceEqDiff, Nat.reduceLT, ne_eq, Int.reduceEq, not_false_eq_true, Option.bind_some, if_false_right, if_true_right, and_true, true_and, Bool.false_eq_true, Bool.true_eq_false, frz_i, frz_b, frz_s, frz_nils, frz_arr, frz_tup, frzC_i, frzC_b, frzC_s, frzC_nils, frzC_arr, alive19_ok, hln0]
  have hl0 : l.length ≠ 0 := fun e => h0 (List.eq_nil_of_length_eq_zero e)
  by_cases h8 : 8192 < l.length
  · have h8' : (8192 : Int) < l.length := by omega
    have hl1 : ¬ (l.length : Int) = 0 := by omega
    simp (disch := first | omega | exact rfl | decide | exact one_b | exact one_i | exact one_sl | exact one_s | exact one_arr | exact one_ptr) only [Try.f4, Wp_seq, Wp_region, Wp_cond, Wp_skip, Wp_ret, Wp_exit, Wp_label, Wp_block, Wp_scope, thenQ_normal, thenQ_exit, thenQ_ret, blockQ_normal, blockQ_exit, blockQ_ret, upQ_normal, upQ_exit, upQ_ret, downQ_normal, downQ_exit, downQ_ret, Ops_cons, Ops_nil, Step_op, Step_call, Step_guard, SOp, SCall_fn, OptQ_some, OptQ_none, OptQ_map, OptQ_bind, OptQ_ite, Br_b, DoneQ_normal, DoneQ_ret, isV, opA, guard_of, grdO, grd, List.getElem?_toArray, beq_false, beq_true, decide_true, decide_false, not_true_eq_false, not_false_eq_true, false_implies, true_implies, imp_self, implies_true, or_true, true_or, or_false, false_or, false_and, and_false, or_self, beq_self_eq_true, Bool.and_true, Bool.true_and, Bool.and_false, Bool.false_and, Bool.or_true, Bool.true_or, Bool.or_false, Bool.false_or, Bool.not_eq_false, gt_iff_lt, ge_iff_le, Int.reduceLT, Int.reduceLE, Int.reduceToNat, Int.toNat_natCast, Nat.mul_one, Nat.add_zero, List.getElem?_drop, ints_get', bools_get', Option.isSome_none, Option.isSome_some, Option.isNone_none, Option.isNone_some, Bool.not_eq_true', decide_eq_false_iff_not, Bool.not_true, Bool.not_false, put_mk, put_mk0, ev_tmp, ev_const, ev_func, T.get_set, T_ofList, ofVal_int, ofVal_bool, ofVal_string, ofVal_nils, ofVal_nilp, ofVal_nilm, binA_lss, binA_leq, binA_gtr, binA_geq, binA_eql, binA_neq, binA_sub, binA_add, binA_mul, binA_quo, binA_rem, binA_or, binA_and, binA_xor, binA_seql, binA_sneq, unA_not, toVal_b, toVal_i, builtinP, builtinA, changes, fieldAddrA, resA, tupled, rowAt_app0, foldA_min, foldA_max, rowAt_app, set_app0', rep_bools, rep_ints, set_bools, set_ints, List.length_set, List.length_replicate, Option.bind_none, rowAt_app, rowAt_cons0, take_app, ints_len, bools_len, wrap_i64, IntWalk.i64_quo, IntWalk.rem_in, List.set_cons_zero, List.set_cons_succ, List.nil_append, List.take_length, List.take_nil, List.take_zero, decide_eq_true_eq, Option.getD_some, Option.map_some, Option.map_none, Option.bind_some, List.getElem?_cons_zero, List.getElem?_cons_succ, List.map_cons, List.map_nil, List.length_cons, List.length_nil, Nat.zero_add, ↓reduceIte, Nat.reduceEqDiff, Nat.reduceLT, ne_eq, Int.reduceEq, not_false_eq_true, Option.bind_some, if_false_right, if_true_right, and_true, true_and, Bool.false_eq_true, Bool.true_eq_false, frz_i, frz_b, frz_s, frz_nils, frz_arr, frz_tup, frzC_i, frzC_b, frzC_s, frzC_nils, frzC_arr, alive19_ok, hln, h8', hl1]
  have h8' : ¬ (8192 : Int) < l.length := by omega
  have hl1 : ¬ (l.length : Int) = 0 := by omega
  have hxa := hx.app [.cells [1, 1] (ints .u8 l)]
  obtain ⟨k, rfl⟩ : ∃ k : Nat, a = k := ⟨a.toNat, by omega⟩
  have hkl : k % l.length < l.length := Nat.mod_lt _ (by omega)
  have hmod : ((k : Int) % (l.length : Int)) = ((k % l.length : Nat) : Int) := by omega
  have hcp := copy_ok (σ := []) (p := [1]) l h0 hn hx
  simp only [List.nil_append, List.length_nil] at hcp
  have hxb : View [.cells [1, 1] (ints .u8 (l.set (k % l.length) v))] x (ints .u8 l) := by simpa using hx.app [.cells [1, 1] (ints .u8 (l.set (k % l.length) v))]
  have hlnb := hxb.len sh22
  rw [ints_len] at hlnb
  have hyb : View [.cells [1, 1] (ints .u8 (l.set (k % l.length) v))] (.sl 0 [1, 1] 0 l.length 1 none) (ints .u8 (l.set (k % l.length) v)) := by
    have := view_new (σ := []) (st := [1, 1]) (L := ints .u8 (l.set (k % l.length) v)) (n := l.length) (cap := none) (by rw [ints_len, List.length_set]) (by intro c h; cases h)
    simpa using this
  have hset : ∀ x ∈ l.set (k % l.length) v, 0 ≤ x ∧ x ≤ 255 := by
    intro q hq
    rcases List.mem_or_eq_of_mem_set hq with h | rfl
    · exact hl q h
    · exact hv
  have b1 := fun p => bytes_ok (p := p) l hl (by omega) 1 hxb
  have b2 := fun p => bytes_ok (p := p) l hl (by omega) 2 hxb
  have b3 := fun p => bytes_ok (p := p) (l.set (k % l.length) v) hset (by rw [List.length_set]; omega) 1 hyb
  rw [bytes_1 l 1 (by omega) (.inl rfl)] at b1
  rw [bytes_1 l 2 (by omega) (.inr rfl)] at b2
  rw [bytes_1 (l.set (k % l.length) v) 1 (by rw [List.length_set]; omega) (.inl rfl)] at b3
  have hN : leafN l.length ≤ 64 := by unfold leafN; omega
  have hm1 : (fl l).length ≤ 64 := by rw [fl_len]; exact hN
  have hm2 : (fl (l.set (k % l.length) v)).length ≤ 64 := by rw [fl_len, List.length_set]; exact hN
  have i1 := treeI_in hm1 (c := 1) (.inl rfl)
  have i2 := treeI_in hm2 (c := 1) (.inl rfl)
  have d1 := treeI_D1 (fl_set l (k % l.length) v) hm1
  have d2 := treeI_D1 (fl_set l (k % l.length) v).symm hm2
  have w1 : IntKind.wrap .i64 (treeI (fl (l.set (k % l.length) v)) 1 - treeI (fl l) 1) = treeI (fl (l.set (k % l.length) v)) 1 - treeI (fl l) 1 := wrap_i64 (by omega) (by omega)
  have w2 : IntKind.wrap .i64 (treeI (fl l) 1 - treeI (fl (l.set (k % l.length) v)) 1) = treeI (fl l) 1 - treeI (fl (l.set (k % l.length) v)) 1 := wrap_i64 (by omega) (by omega)
  have c3 := treeI_two (fl l)
  have c4 := treeI_Lq (fl_Lq l)
  simp (disch := first | omega | exact rfl | decide | exact one_b | exact one_i | exact one_sl | exact one_s | exact one_arr | exact one_ptr) only [Try.f4, Wp_seq, Wp_region, Wp_cond, Wp_skip, Wp_ret, Wp_exit, Wp_label, Wp_block, Wp_scope, thenQ_normal, thenQ_exit, thenQ_ret, blockQ_normal, blockQ_exit, blockQ_ret, upQ_normal, upQ_exit, upQ_ret, downQ_normal, downQ_exit, downQ_ret, Ops_cons, Ops_nil, Step_op, Step_call, Step_guard, SOp, SCall_fn, OptQ_some, OptQ_none, OptQ_map, OptQ_bind, OptQ_ite, Br_b, DoneQ_normal, DoneQ_ret, isV, opA, guard_of, grdO, grd, List.getElem?_toArray, beq_false, beq_true, decide_true, decide_false, not_true_eq_false, not_false_eq_true, false_implies, true_implies, imp_self, implies_true, or_true, true_or, or_false, false_or, false_and, and_false, or_self, beq_self_eq_true, Bool.and_true, Bool.true_and, Bool.and_false, Bool.false_and, Bool.or_true, Bool.true_or, Bool.or_false, Bool.false_or, Bool.not_eq_false, gt_iff_lt, ge_iff_le, Int.reduceLT, Int.reduceLE, Int.reduceToNat, Int.toNat_natCast, Nat.mul_one, Nat.add_zero, List.getElem?_drop, ints_get', bools_get', Option.isSome_none, Option.isSome_some, Option.isNone_none, Option.isNone_some, Bool.not_eq_true', decide_eq_false_iff_not, Bool.not_true, Bool.not_false, put_mk, put_mk0, ev_tmp, ev_const, ev_func, T.get_set, T_ofList, ofVal_int, ofVal_bool, ofVal_string, ofVal_nils, ofVal_nilp, ofVal_nilm, binA_lss, binA_leq, binA_gtr, binA_geq, binA_eql, binA_neq, binA_sub, binA_add, binA_mul, binA_quo, binA_rem, binA_or, binA_and, binA_xor, binA_seql, binA_sneq, unA_not, toVal_b, toVal_i, builtinP, builtinA, changes, fieldAddrA, resA, tupled, rowAt_app0, foldA_min, foldA_max, rowAt_app, set_app0', rep_bools, rep_ints, set_bools, set_ints, List.length_set, List.length_replicate, Option.bind_none, rowAt_app, rowAt_cons0, take_app, ints_len, bools_len, wrap_i64, IntWalk.i64_quo, IntWalk.rem_in, List.set_cons_zero, List.set_cons_succ, List.nil_append, List.take_length, List.take_nil, List.take_zero, decide_eq_true_eq, Option.getD_some, Option.map_some, Option.map_none, Option.bind_some, List.getElem?_cons_zero, List.getElem?_cons_succ, List.map_cons, List.map_nil, List.length_cons, List.length_nil, Nat.zero_add, ↓reduceIte, Nat.reduceEqDiff, Nat.reduceLT, ne_eq, Int.reduceEq, not_false_eq_true, Option.bind_some, if_false_right, if_true_right, and_true, true_and, Bool.false_eq_true, Bool.true_eq_false, frz_i, frz_b, frz_s, frz_nils, frz_arr, frz_tup, frzC_i, frzC_b, frzC_s, frzC_nils, frzC_arr, alive19_ok, hln, h8', hl1, hcp, convertP, sh31, sh3, kn31, hmod, le22, ix22, sto5, ints_len, hkl, List.nil_append, b1, b2, b3, hlnb, most_ok, most_1 l.length 2 (by omega) (.inr rfl), d1, d2, w1, w2, c3, c4]
end Go.Am.R1
