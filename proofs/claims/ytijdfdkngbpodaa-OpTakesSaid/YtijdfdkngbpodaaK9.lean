/- What trees of leaves cost: the document's answer, and that it is the program's. -/
import Derived.Test.YtijdfdkngbpodaaK8
namespace Go.Am.R1
open Go.Proofs
set_option maxRecDepth 100000
set_option linter.unusedSimpArgs false
set_option linter.unusedVariables false
variable {σ : List O} {p : List Nat}
theorem rcost_ok (q : List Int) (m : List Bool) (hb : BV q m) (hm : m.length ≤ 64) (cl : Bool) (c : Int) (hc : c = 1 ∨ c = 2) :
    runF cfg 109 [.arr (ints .u8 q) m.length cl, .i .i64 c] σ p = some (.i .i64 (2 * (nd m (dp m.length) : Nat) + c * (m.countP id : Nat)), σ) := by
  refine run_done rfl rfl Try.func109 rfl ?_
  have hd : dp m.length ≤ 4 := by unfold dp; (repeat' split) <;> omega
  have hnd := nd_le m hm (dp m.length)
  simp (disch := first | omega | exact rfl | decide | exact one_b | exact one_i | exact one_sl | exact one_s | exact one_arr | exact one_ptr) only [Try.f109, Wp_seq, Wp_region, Wp_cond, Wp_skip, Wp_ret, Wp_exit, Wp_label, Wp_block, Wp_scope, thenQ_normal, thenQ_exit, thenQ_ret, blockQ_normal, blockQ_exit, blockQ_ret, upQ_normal, upQ_exit, upQ_ret, downQ_normal, downQ_exit, downQ_ret, Ops_cons, Ops_nil, Step_op, Step_call, Step_guard, SOp, SCall_fn, OptQ_some, OptQ_none, OptQ_map, OptQ_bind, OptQ_ite, Br_b, DoneQ_normal, DoneQ_ret, isV, opA, guard_of, grdO, grd, List.getElem?_toArray, beq_false, beq_true, decide_true, decide_false, not_true_eq_false, not_false_eq_true, false_implies, true_implies, imp_self, implies_true, or_true, true_or, or_false, false_or, false_and, and_false, or_self, beq_self_eq_true, Bool.and_true, Bool.true_and, Bool.and_false, Bool.false_and, Bool.or_true, Bool.true_or, Bool.or_false, Bool.false_or, Bool.not_eq_false, gt_iff_lt, ge_iff_le, Int.reduceLT, Int.reduceLE, Int.reduceToNat, Int.toNat_natCast, Nat.mul_one, Nat.add_zero, List.getElem?_drop, ints_get', bools_get', Option.isSome_none, Option.isSome_some, Option.isNone_none, Option.isNone_some, Bool.not_eq_true', decide_eq_false_iff_not, Bool.not_true, Bool.not_false, put_mk, put_mk0, ev_tmp, ev_const, ev_func, T.get_set, T_ofList, ofVal_int, ofVal_bool, ofVal_string, ofVal_nils, ofVal_nilp, ofVal_nilm, binA_lss, binA_leq, binA_gtr, binA_geq, binA_eql, binA_neq, binA_sub, binA_add, binA_mul, binA_quo, binA_rem, binA_or, binA_and, binA_xor, binA_seql, binA_sneq, unA_not, toVal_b, toVal_i, builtinP, builtinA, changes, fieldAddrA, resA, tupled, rowAt_app0, foldA_min, foldA_max, rowAt_app, set_app0', rep_bools, rep_ints, set_bools, set_ints, List.length_set, List.length_replicate, Option.bind_none, rowAt_app, rowAt_cons0, take_app, ints_len, bools_len, wrap_i64, IntWalk.i64_quo, IntWalk.rem_in, List.set_cons_zero, List.set_cons_succ, List.nil_append, List.take_length, List.take_nil, List.take_zero, decide_eq_true_eq, Option.getD_some, Option.map_some, Option.map_none, Option.bind_some, List.getElem?_cons_zero, List.getElem?_cons_succ, List.map_cons, List.map_nil, List.length_cons, List.length_nil, Nat.zero_add, ↓reduceIte, Nat.reduceEqDiff, Nat.reduceLT, ne_eq, Int.reduceEq, not_false_eq_true, Option.bind_some, if_false_right, if_true_right, and_true, true_and, Bool.false_eq_true, Bool.true_eq_false, frz_i, frz_b, frz_s, frz_nils, frz_arr, frz_tup, frzC_i, frzC_b, frzC_s, frzC_nils, frzC_arr, nodes_ok q m hb hm cl]
  refine Wq.up (fun i s => s.nt = 26 ∧ s.σ = σ ∧ s.t.get 0 = some (.arr (ints .u8 q) m.length cl) ∧ s.t.get 1 = some (.i .i64 c) ∧ s.t.get 6 = some (.i .i64 i) ∧ s.t.get 5 = some (.i .i64 (2 * (nd m (dp m.length) : Nat) + c * ((m.take i).countP id : Nat)))) m.length ?_ ?_
  · refine ⟨rfl, rfl, ?_⟩
    simp (disch := first | omega | exact rfl | decide | exact one_b | exact one_i | exact one_sl | exact one_s | exact one_arr | exact one_ptr) only [Wp_seq, Wp_region, Wp_cond, Wp_skip, Wp_ret, Wp_exit, Wp_label, Wp_block, Wp_scope, thenQ_normal, thenQ_exit, thenQ_ret, blockQ_normal, blockQ_exit, blockQ_ret, upQ_normal, upQ_exit, upQ_ret, downQ_normal, downQ_exit, downQ_ret, Ops_cons, Ops_nil, Step_op, Step_call, Step_guard, SOp, SCall_fn, OptQ_some, OptQ_none, OptQ_map, OptQ_bind, OptQ_ite, Br_b, DoneQ_normal, DoneQ_ret, isV, opA, guard_of, grdO, grd, List.getElem?_toArray, beq_false, beq_true, decide_true, decide_false, not_true_eq_false, not_false_eq_true, false_implies, true_implies, imp_self, implies_true, or_true, true_or, or_false, false_or, false_and, and_false, or_self, beq_self_eq_true, Bool.and_true, Bool.true_and, Bool.and_false, Bool.false_and, Bool.or_true, Bool.true_or, Bool.or_false, Bool.false_or, Bool.not_eq_false, gt_iff_lt, ge_iff_le, Int.reduceLT, Int.reduceLE, Int.reduceToNat, Int.toNat_natCast, Nat.mul_one, Nat.add_zero, List.getElem?_drop, ints_get', bools_get', Option.isSome_none, Option.isSome_some, Option.isNone_none, Option.isNone_some, Bool.not_eq_true', decide_eq_false_iff_not, Bool.not_true, Bool.not_false, put_mk, put_mk0, ev_tmp, ev_const, ev_func, T.get_set, T_ofList, ofVal_int, ofVal_bool, ofVal_string, ofVal_nils, ofVal_nilp, ofVal_nilm, binA_lss, binA_leq, binA_gtr, binA_geq, binA_eql, binA_neq, binA_sub, binA_add, binA_mul, binA_quo, binA_rem, binA_or, binA_and, binA_xor, binA_seql, binA_sneq, unA_not, toVal_b, toVal_i, builtinP, builtinA, changes, fieldAddrA, resA, tupled, rowAt_app0, foldA_min, foldA_max, rowAt_app, set_app0', rep_bools, rep_ints, set_bools, set_ints, List.length_set, List.length_replicate, Option.bind_none, rowAt_app, rowAt_cons0, take_app, ints_len, bools_len, wrap_i64, IntWalk.i64_quo, IntWalk.rem_in, List.set_cons_zero, List.set_cons_succ, List.nil_append, List.take_length, List.take_nil, List.take_zero, decide_eq_true_eq, Option.getD_some, Option.map_some, Option.map_none, Option.bind_some, List.getElem?_cons_zero, List.getElem?_cons_succ, List.map_cons, List.map_nil, List.length_cons, List.length_nil, Nat.zero_add, ↓reduceIte, Nat.reduceEqDiff, Nat.reduceLT, ne_eq, Int.reduceEq, not_false_eq_true, Option.bind_some, if_false_right, if_true_right, and_true, true_and, Bool.false_eq_true, Bool.true_eq_false, frz_i, frz_b, frz_s, frz_nils, frz_arr, frz_tup, frzC_i, frzC_b, frzC_s, frzC_nils, frzC_arr]
    simp
  · rintro i ⟨t, nt, σ', c'⟩ hi ⟨rfl, rfl, h0, h1, h6, h5⟩
    have hcl := List.countP_le_length (l := m.take i) (p := id)
    rw [List.length_take] at hcl
    by_cases hlt : i < m.length
    · have hl1 : 128 ≤ (ints .u8 (q.drop (i * 128))).length := by rw [ints_len, List.length_drop, hb.len]; omega
      have hl2 : ((q.drop (i * 128)).take 128).length = 128 := by rw [List.length_take, List.length_drop, hb.len]; omega
      have hg := hb.get i hlt
      have ht : m.take (i + 1) = m.take i ++ [m.getD i false] := by rw [List.take_add_one, List.getD_eq_getElem?_getD]; simp [hlt]
      cases hf : m.getD i false
      · rw [hf] at hg
        simp (disch := first | omega | exact rfl | decide | exact one_b | exact one_i | exact one_sl | exact one_s | exact one_arr | exact one_ptr) only [Wp_seq, Wp_region, Wp_cond, Wp_skip, Wp_ret, Wp_exit, Wp_label, Wp_block, Wp_scope, thenQ_normal, thenQ_exit, thenQ_ret, blockQ_normal, blockQ_exit, blockQ_ret, upQ_normal, upQ_exit, upQ_ret, downQ_normal, downQ_exit, downQ_ret, Ops_cons, Ops_nil, Step_op, Step_call, Step_guard, SOp, SCall_fn, OptQ_some, OptQ_none, OptQ_map, OptQ_bind, OptQ_ite, Br_b, DoneQ_normal, DoneQ_ret, isV, opA, guard_of, grdO, grd, List.getElem?_toArray, beq_false, beq_true, decide_true, decide_false, not_true_eq_false, not_false_eq_true, false_implies, true_implies, imp_self, implies_true, or_true, true_or, or_false, false_or, false_and, and_false, or_self, beq_self_eq_true, Bool.and_true, Bool.true_and, Bool.and_false, Bool.false_and, Bool.or_true, Bool.true_or, Bool.or_false, Bool.false_or, Bool.not_eq_false, gt_iff_lt, ge_iff_le, Int.reduceLT, Int.reduceLE, Int.reduceToNat, Int.toNat_natCast, Nat.mul_one, Nat.add_zero, List.getElem?_drop, ints_get', bools_get', Option.isSome_none, Option.isSome_some, Option.isNone_none, Option.isNone_some, Bool.not_eq_true', decide_eq_false_iff_not, Bool.not_true, Bool.not_false, put_mk, put_mk0, ev_tmp, ev_const, ev_func, T.get_set, T_ofList, ofVal_int, ofVal_bool, ofVal_string, ofVal_nils, ofVal_nilp, ofVal_nilm, binA_lss, binA_leq, binA_gtr, binA_geq, binA_eql, binA_neq, binA_sub, binA_add, binA_mul, binA_quo, binA_rem, binA_or, binA_and, binA_xor, binA_seql, binA_sneq, unA_not, toVal_b, toVal_i, builtinP, builtinA, changes, fieldAddrA, resA, tupled, rowAt_app0, foldA_min, foldA_max, rowAt_app, set_app0', rep_bools, rep_ints, set_bools, set_ints, List.length_set, List.length_replicate, Option.bind_none, rowAt_app, rowAt_cons0, take_app, ints_len, bools_len, wrap_i64, IntWalk.i64_quo, IntWalk.rem_in, List.set_cons_zero, List.set_cons_succ, List.nil_append, List.take_length, List.take_nil, List.take_zero, decide_eq_true_eq, Option.getD_some, Option.map_some, Option.map_none, Option.bind_some, List.getElem?_cons_zero, List.getElem?_cons_succ, List.map_cons, List.map_nil, List.length_cons, List.length_nil, Nat.zero_add, ↓reduceIte, Nat.reduceEqDiff, Nat.reduceLT, ne_eq, Int.reduceEq, not_false_eq_true, Option.bind_some, if_false_right, if_true_right, and_true, true_and, Bool.false_eq_true, Bool.true_eq_false, frz_i, frz_b, frz_s, frz_nils, frz_arr, frz_tup, frzC_i, frzC_b, frzC_s, frzC_nils, frzC_arr, h0, h1, h5, h6, lr138, Int.ofNat_lt, hlt, ia138, li153 hl1, ints_drop, ints_take, bz153, neq153 hl2 (List.length_replicate (a := (0 : Int))), hg]
        rw [ht, hf]; simp
      · rw [hf] at hg
        have hw : IntKind.wrap .i64 (2 * (nd m (dp m.length) : Nat) + c * ((m.take i).countP id : Nat) + c) = 2 * (nd m (dp m.length) : Nat) + c * ((m.take i).countP id : Nat) + c := wrap_i64 (by rcases hc with rfl | rfl <;> omega) (by rcases hc with rfl | rfl <;> omega)
        simp (disch := first | omega | exact rfl | decide | exact one_b | exact one_i | exact one_sl | exact one_s | exact one_arr | exact one_ptr) only [Wp_seq, Wp_region, Wp_cond, Wp_skip, Wp_ret, Wp_exit, Wp_label, Wp_block, Wp_scope, thenQ_normal, thenQ_exit, thenQ_ret, blockQ_normal, blockQ_exit, blockQ_ret, upQ_normal, upQ_exit, upQ_ret, downQ_normal, downQ_exit, downQ_ret, Ops_cons, Ops_nil, Step_op, Step_call, Step_guard, SOp, SCall_fn, OptQ_some, OptQ_none, OptQ_map, OptQ_bind, OptQ_ite, Br_b, DoneQ_normal, DoneQ_ret, isV, opA, guard_of, grdO, grd, List.getElem?_toArray, beq_false, beq_true, decide_true, decide_false, not_true_eq_false, not_false_eq_true, false_implies, true_implies, imp_self, implies_true, or_true, true_or, or_false, false_or, false_and, and_false, or_self, beq_self_eq_true, Bool.and_true, Bool.true_and, Bool.and_false, Bool.false_and, Bool.or_true, Bool.true_or, Bool.or_false, Bool.false_or, Bool.not_eq_false, gt_iff_lt, ge_iff_le, Int.reduceLT, Int.reduceLE, Int.reduceToNat, Int.toNat_natCast, Nat.mul_one, Nat.add_zero, List.getElem?_drop, ints_get', bools_get', Option.isSome_none, Option.isSome_some, Option.isNone_none, Option.isNone_some, Bool.not_eq_true', decide_eq_false_iff_not, Bool.not_true, Bool.not_false, put_mk, put_mk0, ev_tmp, ev_const, ev_func, T.get_set, T_ofList, ofVal_int, ofVal_bool, ofVal_string, ofVal_nils, ofVal_nilp, ofVal_nilm, binA_lss, binA_leq, binA_gtr, binA_geq, binA_eql, binA_neq, binA_sub, binA_add, binA_mul, binA_quo, binA_rem, binA_or, binA_and, binA_xor, binA_seql, binA_sneq, unA_not, toVal_b, toVal_i, builtinP, builtinA, changes, fieldAddrA, resA, tupled, rowAt_app0, foldA_min, foldA_max, rowAt_app, set_app0', rep_bools, rep_ints, set_bools, set_ints, List.length_set, List.length_replicate, Option.bind_none, rowAt_app, rowAt_cons0, take_app, ints_len, bools_len, wrap_i64, IntWalk.i64_quo, IntWalk.rem_in, List.set_cons_zero, List.set_cons_succ, List.nil_append, List.take_length, List.take_nil, List.take_zero, decide_eq_true_eq, Option.getD_some, Option.map_some, Option.map_none, Option.bind_some, List.getElem?_cons_zero, List.getElem?_cons_succ, List.map_cons, List.map_nil, List.length_cons, List.length_nil, Nat.zero_add, ↓reduceIte, Nat.reduceEqDiff, Nat.reduceLT, ne_eq, Int.reduceEq, not_false_eq_true, Option.bind_some, if_false_right, if_true_right, and_true, true_and, Bool.false_eq_true, Bool.true_eq_false, frz_i, frz_b, frz_s, frz_nils, frz_arr, frz_tup, frzC_i, frzC_b, frzC_s, frzC_nils, frzC_arr, h0, h1, h5, h6, lr138, Int.ofNat_lt, hlt, ia138, li153 hl1, ints_drop, ints_take, bz153, neq153 hl2 (List.length_replicate (a := (0 : Int))), hg, hw]
        rw [ht, hf]; simp
        rcases hc with rfl | rfl <;> omega
    · have hi' : i = m.length := by omega
      subst hi'
      simp (disch := first | omega | exact rfl | decide | exact one_b | exact one_i | exact one_sl | exact one_s | exact one_arr | exact one_ptr) only [Wp_seq, Wp_region, Wp_cond, Wp_skip, Wp_ret, Wp_exit, Wp_label, Wp_block, Wp_scope, thenQ_normal, thenQ_exit, thenQ_ret, blockQ_normal, blockQ_exit, blockQ_ret, upQ_normal, upQ_exit, upQ_ret, downQ_normal, downQ_exit, downQ_ret, Ops_cons, Ops_nil, Step_op, Step_call, Step_guard, SOp, SCall_fn, OptQ_some, OptQ_none, OptQ_map, OptQ_bind, OptQ_ite, Br_b, DoneQ_normal, DoneQ_ret, isV, opA, guard_of, grdO, grd, List.getElem?_toArray, beq_false, beq_true, decide_true, decide_false, not_true_eq_false, not_false_eq_true, false_implies, true_implies, imp_self, implies_true, or_true, true_or, or_false, false_or, false_and, and_false, or_self, beq_self_eq_true, Bool.and_true, Bool.true_and, Bool.and_false, Bool.false_and, Bool.or_true, Bool.true_or, Bool.or_false, Bool.false_or, Bool.not_eq_false, gt_iff_lt, ge_iff_le, Int.reduceLT, Int.reduceLE, Int.reduceToNat, Int.toNat_natCast, Nat.mul_one, Nat.add_zero, List.getElem?_drop, ints_get', bools_get', Option.isSome_none, Option.isSome_some, Option.isNone_none, Option.isNone_some, Bool.not_eq_true', decide_eq_false_iff_not, Bool.not_true, Bool.not_false, put_mk, put_mk0, ev_tmp, ev_const, ev_func, T.get_set, T_ofList, ofVal_int, ofVal_bool, ofVal_string, ofVal_nils, ofVal_nilp, ofVal_nilm, binA_lss, binA_leq, binA_gtr, binA_geq, binA_eql, binA_neq, binA_sub, binA_add, binA_mul, binA_quo, binA_rem, binA_or, binA_and, binA_xor, binA_seql, binA_sneq, unA_not, toVal_b, toVal_i, builtinP, builtinA, changes, fieldAddrA, resA, tupled, rowAt_app0, foldA_min, foldA_max, rowAt_app, set_app0', rep_bools, rep_ints, set_bools, set_ints, List.length_set, List.length_replicate, Option.bind_none, rowAt_app, rowAt_cons0, take_app, ints_len, bools_len, wrap_i64, IntWalk.i64_quo, IntWalk.rem_in, List.set_cons_zero, List.set_cons_succ, List.nil_append, List.take_length, List.take_nil, List.take_zero, decide_eq_true_eq, Option.getD_some, Option.map_some, Option.map_none, Option.bind_some, List.getElem?_cons_zero, List.getElem?_cons_succ, List.map_cons, List.map_nil, List.length_cons, List.length_nil, Nat.zero_add, ↓reduceIte, Nat.reduceEqDiff, Nat.reduceLT, ne_eq, Int.reduceEq, not_false_eq_true, Option.bind_some, if_false_right, if_true_right, and_true, true_and, Bool.false_eq_true, Bool.true_eq_false, frz_i, frz_b, frz_s, frz_nils, frz_arr, frz_tup, frzC_i, frzC_b, frzC_s, frzC_nils, frzC_arr, h0, h1, h5, h6, lr138, Int.ofNat_lt, hlt]
/-! The same in two ways. -/
theorem zw_above (m : List Bool) (a w : Nat) : zw (above m) a w = zw m (a * 3) (w * 3) := by
  rw [Bool.eq_iff_iff, zw, zw, List.all_eq_true, List.all_eq_true]
  simp only [List.mem_range, Bool.not_eq_true', Bool.eq_false_iff, ne_eq, above_get, not_exists, not_and]
  constructor
  · intro h j hj hm
    exact h (j / 3) (by omega) (a * 3 + j) (getD_lt hm) (by omega) hm
  · intro h j hj k hk hkj hm
    exact h (k - a * 3) (by omega) (by rw [show a * 3 + (k - a * 3) = k by omega]; exact hm)
theorem cn_above (m : List Bool) (w : Nat) (hw : 0 < w) : cn (above m) w = cn m (w * 3) := by
  unfold cn
  rw [above_len]
  have h1 : (m.length + w * 3 - 1) / (w * 3) = ((m.length + 2) / 3 + w - 1) / w := by
    rw [Nat.mul_comm w 3, ← Nat.div_div_eq_div_mul]
    congr 1
    omega
  rw [h1]
  congr 1
  funext j
  rw [zw_above, Nat.mul_assoc]
theorem count_range (m : List Bool) : m.countP id = (List.range m.length).countP fun j => m.getD j false := by
  have : m = (List.range m.length).map fun j => m.getD j false := by
    apply List.ext_getElem
    · simp
    · intro i h1 h2; simp [List.getD_eq_getElem?_getD, h1]
  conv => lhs; rw [this]
  rw [List.countP_map]; rfl
theorem cn_one (m : List Bool) : cn m 1 = m.countP id := by
  rw [count_range, cn]
  simp only [Nat.add_sub_cancel, Nat.div_one]
  congr 1
  funext j
  simp [zw]
theorem nd_above (m : List Bool) : ∀ k, nd m (k + 1) = (above m).countP id + nd (above m) k
  | 0 => by
    show 0 + cn m (3 ^ 1) = _
    rw [← cn_one, cn_above _ _ (by decide)]; simp [nd]
  | k + 1 => by
    rw [nd, nd_above m k, nd, cn_above _ _ (Nat.pow_pos (by decide)), ← Nat.pow_succ]
    simp only [Nat.succ_eq_add_one]
    omega
theorem dp_above {n : Nat} (h1 : 1 < n) (h2 : n ≤ 64) : dp n = dp ((n + 2) / 3) + 1 := by
  unfold dp
  (repeat' split) <;> omega
theorem rest_nd : ∀ (f : Nat) (m : List Bool), m.length ≤ f → m.length ≤ 64 → rest f m = 2 * nd m (dp m.length)
  | 0, m, h, _ => by rw [show m.length = 0 by omega]; rfl
  | f + 1, m, h, h64 => by
    rw [rest]
    split
    · rename_i h1
      have := above_len m
      rw [rest_nd f (above m) (by omega) (by omega), dp_above h1 h64, nd_above, above_len]
      omega
    · rw [show dp m.length = 0 by unfold dp; rw [if_pos (by omega)]]; rfl
theorem tree_nd (m : List Bool) (hm : m.length ≤ 64) (c : Int) : 2 * ((nd m (dp m.length) : Nat) : Int) + c * (m.countP id : Nat) = treeI m c := by
  unfold treeI
  rw [rest_nd _ m (Nat.le_refl _) hm]
  omega
end Go.Am.R1
