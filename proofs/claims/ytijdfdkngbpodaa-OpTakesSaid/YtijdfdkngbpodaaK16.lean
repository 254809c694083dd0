/- The program's reader of texts. -/
import Derived.Test.YtijdfdkngbpodaaK15
namespace Go.Am.R1
open Go.Proofs
set_option maxRecDepth 100000
set_option linter.unusedSimpArgs false
set_option linter.unusedVariables false
variable {σ : List O} {p : List Nat}
theorem text_bad (l : List Int) (hl : ∀ x ∈ l, 0 ≤ x ∧ x ≤ 255) (hn : l.length ≤ 140737488355328) (w : Nat) (hw : 1 ≤ w) (hw2 : w ≤ 2) {r : Nat} {st : List Nat} {y : V} {bad : Bool} (hrow : rowAt σ r st = some [y, .b bad]) (hy : View σ y (ints .u8 l)) (h : bad = true ∨ textN l 0 w = none) :
    runF cfg 72 [.ptr r st 0, .i .i64 w] σ p = some (.s .empty, σ.set r (.cells st [y, .b true])) := by
  refine run_done rfl rfl Try.func72 rfl ?_
  have hln := hy.len sh22
  rw [ints_len] at hln
  have hc := fun q => wtake_ok (p := q) l hl hn 0 w (by omega) hy
  have hrl := rowAt_lt hrow
  cases bad with
  | true =>
    obtain ⟨a, b, hab⟩ : ∃ a b, takeI l 0 w = [a, b] := by
      unfold takeI; split
      · exact ⟨_, _, rfl⟩
      · split
        · exact ⟨_, _, rfl⟩
        · split <;> exact ⟨_, _, rfl⟩
    rw [hab] at hc
    simp (disch := first | omega | exact rfl | decide | exact one_b | exact one_i | exact one_sl | exact one_s | exact one_arr | exact one_ptr) only [Try.f72, Wp_seq, Wp_region, Wp_cond, Wp_skip, Wp_ret, Wp_exit, Wp_label, Wp_block, Wp_scope, thenQ_normal, thenQ_exit, thenQ_ret, blockQ_normal, blockQ_exit, blockQ_ret, upQ_normal, upQ_exit, upQ_ret, downQ_normal, downQ_exit, downQ_ret, Ops_cons, Ops_nil, Step_op, Step_call, Step_guard, SOp, SCall_fn, OptQ_some, OptQ_none, OptQ_map, OptQ_bind, OptQ_ite, Br_b, DoneQ_normal, DoneQ_ret, isV, opA, guard_of, grdO, grd, List.getElem?_toArray, beq_false, beq_true, decide_true, decide_false, not_true_eq_false, not_false_eq_true, false_implies, true_implies, imp_self, implies_true, or_true, true_or, or_false, false_or, false_and, and_false, or_self, beq_self_eq_true, Bool.and_true, Bool.true_and, Bool.and_false, Bool.false_and, Bool.or_true, Bool.true_or, Bool.or_false, Bool.false_or, Bool.not_eq_false, gt_iff_lt, ge_iff_le, Int.reduceLT, Int.reduceLE, Int.reduceToNat, Int.toNat_natCast, Nat.mul_one, Nat.add_zero, List.getElem?_drop, ints_get', bools_get', Option.isSome_none, Option.isSome_some, Option.isNone_none, Option.isNone_some, Bool.not_eq_true', decide_eq_false_iff_not, Bool.not_true, Bool.not_false, put_mk, put_mk0, ev_tmp, ev_const, ev_func, T.get_set, T_ofList, ofVal_int, ofVal_bool, ofVal_string, ofVal_nils, ofVal_nilp, ofVal_nilm, binA_lss, binA_leq, binA_gtr, binA_geq, binA_eql, binA_neq, binA_sub, binA_add, binA_mul, binA_quo, binA_rem, binA_or, binA_and, binA_xor, binA_seql, binA_sneq, unA_not, toVal_b, toVal_i, builtinP, builtinA, changes, fieldAddrA, resA, tupled, rowAt_app0, foldA_min, foldA_max, rowAt_app, set_app0', rep_bools, rep_ints, set_bools, set_ints, List.length_set, List.length_replicate, Option.bind_none, rowAt_app, rowAt_cons0, take_app, ints_len, bools_len, wrap_i64, IntWalk.i64_quo, IntWalk.rem_in, List.set_cons_zero, List.set_cons_succ, List.nil_append, List.take_length, List.take_nil, List.take_zero, decide_eq_true_eq, Option.getD_some, Option.map_some, Option.map_none, Option.bind_some, List.getElem?_cons_zero, List.getElem?_cons_succ, List.map_cons, List.map_nil, List.length_cons, List.length_nil, Nat.zero_add, ↓reduceIte, Nat.reduceEqDiff, Nat.reduceLT, ne_eq, Int.reduceEq, not_false_eq_true, Option.bind_some, if_false_right, if_true_right, and_true, true_and, Bool.false_eq_true, Bool.true_eq_false, frz_i, frz_b, frz_s, frz_nils, frz_arr, frz_tup, frzC_i, frzC_b, frzC_s, frzC_nils, frzC_arr, fi98x0, fi98x1, sz22, sz4, derefA, ld22, ld4, sto4, hrow, hc, take_set]
    exact ⟨by decide, rfl⟩
  | false =>
    have ht : textN l 0 w = none := by simpa using h
    by_cases hin : 0 + w ≤ l.length
    · rw [show ((0 : Int)) = ((0 : Nat) : Int) from rfl, takeI_in hw hw2 hl hin] at hc
      obtain ⟨n, hn'⟩ : ∃ n, n = le ((l.take (0 + w)).drop 0) := ⟨_, rfl⟩
      rw [← hn'] at hc
      have hfit : ¬ 0 + w + n ≤ l.length := by
        intro hf; unfold textN at ht; rw [if_pos hin, ← hn'] at ht; simp [hf] at ht
        omega
      have hnf : ((l.length : Int) - w < n) := by omega
      have hc' : ∀ q, runF cfg 71 [y, .i .i64 0, .i .i64 w] σ q = some (.tup [.i .i64 n, .i .i64 0], σ) := hc
      simp (disch := first | omega | exact rfl | decide | exact one_b | exact one_i | exact one_sl | exact one_s | exact one_arr | exact one_ptr) only [Try.f72, Wp_seq, Wp_region, Wp_cond, Wp_skip, Wp_ret, Wp_exit, Wp_label, Wp_block, Wp_scope, thenQ_normal, thenQ_exit, thenQ_ret, blockQ_normal, blockQ_exit, blockQ_ret, upQ_normal, upQ_exit, upQ_ret, downQ_normal, downQ_exit, downQ_ret, Ops_cons, Ops_nil, Step_op, Step_call, Step_guard, SOp, SCall_fn, OptQ_some, OptQ_none, OptQ_map, OptQ_bind, OptQ_ite, Br_b, DoneQ_normal, DoneQ_ret, isV, opA, guard_of, grdO, grd, List.getElem?_toArray, beq_false, beq_true, decide_true, decide_false, not_true_eq_false, not_false_eq_true, false_implies, true_implies, imp_self, implies_true, or_true, true_or, or_false, false_or, false_and, and_false, or_self, beq_self_eq_true, Bool.and_true, Bool.true_and, Bool.and_false, Bool.false_and, Bool.or_true, Bool.true_or, Bool.or_false, Bool.false_or, Bool.not_eq_false, gt_iff_lt, ge_iff_le, Int.reduceLT, Int.reduceLE, Int.reduceToNat, Int.toNat_natCast, Nat.mul_one, Nat.add_zero, List.getElem?_drop, ints_get', bools_get', Option.isSome_none, Option.isSome_some, Option.isNone_none, Option.isNone_some, Bool.not_eq_true', decide_eq_false_iff_not, Bool.not_true, Bool.not_false, put_mk, put_mk0, ev_tmp, ev_const, ev_func, T.get_set, T_ofList, ofVal_int, ofVal_bool, ofVal_string, ofVal_nils, ofVal_nilp, ofVal_nilm, binA_lss, binA_leq, binA_gtr, binA_geq, binA_eql, binA_neq, binA_sub, binA_add, binA_mul, binA_quo, binA_rem, binA_or, binA_and, binA_xor, binA_seql, binA_sneq, unA_not, toVal_b, toVal_i, builtinP, builtinA, changes, fieldAddrA, resA, tupled, rowAt_app0, foldA_min, foldA_max, rowAt_app, set_app0', rep_bools, rep_ints, set_bools, set_ints, List.length_set, List.length_replicate, Option.bind_none, rowAt_app, rowAt_cons0, take_app, ints_len, bools_len, wrap_i64, IntWalk.i64_quo, IntWalk.rem_in, List.set_cons_zero, List.set_cons_succ, List.nil_append, List.take_length, List.take_nil, List.take_zero, decide_eq_true_eq, Option.getD_some, Option.map_some, Option.map_none, Option.bind_some, List.getElem?_cons_zero, List.getElem?_cons_succ, List.map_cons, List.map_nil, List.length_cons, List.length_nil, Nat.zero_add, ↓reduceIte, Nat.reduceEqDiff, Nat.reduceLT, ne_eq, Int.reduceEq, not_false_eq_true, Option.bind_some, if_false_right, if_true_right, and_true, true_and, Bool.false_eq_true, Bool.true_eq_false, frz_i, frz_b, frz_s, frz_nils, frz_arr, frz_tup, frzC_i, frzC_b, frzC_s, frzC_nils, frzC_arr, fi98x0, fi98x1, sz22, sz4, derefA, ld22, ld4, sto4, hrow, hc', take_set, hln, hnf]
      exact ⟨by decide, rfl⟩
    · rw [show ((0 : Int)) = ((0 : Nat) : Int) from rfl, takeI_out hw hw2 (by omega)] at hc
      have hc' : ∀ q, runF cfg 71 [y, .i .i64 0, .i .i64 w] σ q = some (.tup [.i .i64 0, .i .i64 1], σ) := hc
      simp (disch := first | omega | exact rfl | decide | exact one_b | exact one_i | exact one_sl | exact one_s | exact one_arr | exact one_ptr) only [Try.f72, Wp_seq, Wp_region, Wp_cond, Wp_skip, Wp_ret, Wp_exit, Wp_label, Wp_block, Wp_scope, thenQ_normal, thenQ_exit, thenQ_ret, blockQ_normal, blockQ_exit, blockQ_ret, upQ_normal, upQ_exit, upQ_ret, downQ_normal, downQ_exit, downQ_ret, Ops_cons, Ops_nil, Step_op, Step_call, Step_guard, SOp, SCall_fn, OptQ_some, OptQ_none, OptQ_map, OptQ_bind, OptQ_ite, Br_b, DoneQ_normal, DoneQ_ret, isV, opA, guard_of, grdO, grd, List.getElem?_toArray, beq_false, beq_true, decide_true, decide_false, not_true_eq_false, not_false_eq_true, false_implies, true_implies, imp_self, implies_true, or_true, true_or, or_false, false_or, false_and, and_false, or_self, beq_self_eq_true, Bool.and_true, Bool.true_and, Bool.and_false, Bool.false_and, Bool.or_true, Bool.true_or, Bool.or_false, Bool.false_or, Bool.not_eq_false, gt_iff_lt, ge_iff_le, Int.reduceLT, Int.reduceLE, Int.reduceToNat, Int.toNat_natCast, Nat.mul_one, Nat.add_zero, List.getElem?_drop, ints_get', bools_get', Option.isSome_none, Option.isSome_some, Option.isNone_none, Option.isNone_some, Bool.not_eq_true', decide_eq_false_iff_not, Bool.not_true, Bool.not_false, put_mk, put_mk0, ev_tmp, ev_const, ev_func, T.get_set, T_ofList, ofVal_int, ofVal_bool, ofVal_string, ofVal_nils, ofVal_nilp, ofVal_nilm, binA_lss, binA_leq, binA_gtr, binA_geq, binA_eql, binA_neq, binA_sub, binA_add, binA_mul, binA_quo, binA_rem, binA_or, binA_and, binA_xor, binA_seql, binA_sneq, unA_not, toVal_b, toVal_i, builtinP, builtinA, changes, fieldAddrA, resA, tupled, rowAt_app0, foldA_min, foldA_max, rowAt_app, set_app0', rep_bools, rep_ints, set_bools, set_ints, List.length_set, List.length_replicate, Option.bind_none, rowAt_app, rowAt_cons0, take_app, ints_len, bools_len, wrap_i64, IntWalk.i64_quo, IntWalk.rem_in, List.set_cons_zero, List.set_cons_succ, List.nil_append, List.take_length, List.take_nil, List.take_zero, decide_eq_true_eq, Option.getD_some, Option.map_some, Option.map_none, Option.bind_some, List.getElem?_cons_zero, List.getElem?_cons_succ, List.map_cons, List.map_nil, List.length_cons, List.length_nil, Nat.zero_add, ↓reduceIte, Nat.reduceEqDiff, Nat.reduceLT, ne_eq, Int.reduceEq, not_false_eq_true, Option.bind_some, if_false_right, if_true_right, and_true, true_and, Bool.false_eq_true, Bool.true_eq_false, frz_i, frz_b, frz_s, frz_nils, frz_arr, frz_tup, frzC_i, frzC_b, frzC_s, frzC_nils, frzC_arr, fi98x0, fi98x1, sz22, sz4, derefA, ld22, ld4, sto4, hrow, hc', take_set, hln]
      exact ⟨by decide, rfl⟩
theorem text_good (l : List Int) (hl : ∀ x ∈ l, 0 ≤ x ∧ x ≤ 255) (hn : l.length ≤ 140737488355328) (w n : Nat) (hw : 1 ≤ w) (hw2 : w ≤ 2) {r : Nat} {st : List Nat} {y : V} (hrow : rowAt σ r st = some [y, .b false]) (hy : View σ y (ints .u8 l)) (ht : textN l 0 w = some n) :
    ∃ y', sliceA cfg 22 y (some (.i .i64 ((w + n : Nat) : Int))) none none = some y' ∧ (∀ r, notIn r y → notIn r y') ∧ (∀ σ' : List O, View σ' y (ints .u8 l) → View σ' y' (ints .u8 (l.drop (w + n)))) ∧ ∀ p, runF cfg 72 [.ptr r st 0, .i .i64 w] σ p = some (.s (str ((l.take (w + n)).drop w)), σ.set r (.cells st [y', .b false])) := by
  have hln := hy.len sh22
  rw [ints_len] at hln
  have hin : 0 + w ≤ l.length := by
    unfold textN at ht; split at ht
    · assumption
    · cases ht
  have hn' : n = le ((l.take (0 + w)).drop 0) ∧ 0 + w + n ≤ l.length := by
    unfold textN at ht; rw [if_pos hin] at ht
    simp only at ht
    split at ht
    · rename_i h; cases ht; exact ⟨rfl, h⟩
    · cases ht
  obtain ⟨hnn, hfit⟩ := hn'
  have hc := fun q => wtake_ok (p := q) l hl hn ((0 : Nat) : Int) w (by omega) hy
  rw [takeI_in hw hw2 hl hin, ← hnn] at hc
  have hc' : ∀ q, runF cfg 71 [y, .i .i64 0, .i .i64 w] σ q = some (.tup [.i .i64 n, .i .i64 0], σ) := hc
  have hnf : ¬ ((l.length : Int) - w < n) := by omega
  have e1 : (w : Int) + n = ((w + n : Nat) : Int) := by omega
  obtain ⟨z, hz, hzv⟩ := hy.part sh22 sz5 .i64 .i64 w (w + n) (by omega) (by rw [ints_len]; omega)
  have hzz := hzv σ _ hy
  rw [ints_take, ints_drop] at hzz
  have hst := hzz.str sh22 sh5 sh9
  obtain ⟨y', hy', hni, hv'⟩ := view_tail hy sh22 sz5 .i64 (w + n) (by rw [ints_len]; omega)
  have hone := view_one (hv' σ _ hy)
  refine ⟨y', hy', hni, fun σ' h => by have := hv' σ' _ h; rwa [ints_drop] at this, fun p => ?_⟩
  refine run_done rfl rfl Try.func72 rfl ?_
  simp (disch := first | omega | exact rfl | decide | exact one_b | exact one_i | exact one_sl | exact one_s | exact one_arr | exact one_ptr) only [Try.f72, Wp_seq, Wp_region, Wp_cond, Wp_skip, Wp_ret, Wp_exit, Wp_label, Wp_block, Wp_scope, thenQ_normal, thenQ_exit, thenQ_ret, blockQ_normal, blockQ_exit, blockQ_ret, upQ_normal, upQ_exit, upQ_ret, downQ_normal, downQ_exit, downQ_ret, Ops_cons, Ops_nil, Step_op, Step_call, Step_guard, SOp, SCall_fn, OptQ_some, OptQ_none, OptQ_map, OptQ_bind, OptQ_ite, Br_b, DoneQ_normal, DoneQ_ret, isV, opA, guard_of, grdO, grd, List.getElem?_toArray, beq_false, beq_true, decide_true, decide_false, not_true_eq_false, not_false_eq_true, false_implies, true_implies, imp_self, implies_true, or_true, true_or, or_false, false_or, false_and, and_false, or_self, beq_self_eq_true, Bool.and_true, Bool.true_and, Bool.and_false, Bool.false_and, Bool.or_true, Bool.true_or, Bool.or_false, Bool.false_or, Bool.not_eq_false, gt_iff_lt, ge_iff_le, Int.reduceLT, Int.reduceLE, Int.reduceToNat, Int.toNat_natCast, Nat.mul_one, Nat.add_zero, List.getElem?_drop, ints_get', bools_get', Option.isSome_none, Option.isSome_some, Option.isNone_none, Option.isNone_some, Bool.not_eq_true', decide_eq_false_iff_not, Bool.not_true, Bool.not_false, put_mk, put_mk0, ev_tmp, ev_const, ev_func, T.get_set, T_ofList, ofVal_int, ofVal_bool, ofVal_string, ofVal_nils, ofVal_nilp, ofVal_nilm, binA_lss, binA_leq, binA_gtr, binA_geq, binA_eql, binA_neq, binA_sub, binA_add, binA_mul, binA_quo, binA_rem, binA_or, binA_and, binA_xor, binA_seql, binA_sneq, unA_not, toVal_b, toVal_i, builtinP, builtinA, changes, fieldAddrA, resA, tupled, rowAt_app0, foldA_min, foldA_max, rowAt_app, set_app0', rep_bools, rep_ints, set_bools, set_ints, List.length_set, List.length_replicate, Option.bind_none, rowAt_app, rowAt_cons0, take_app, ints_len, bools_len, wrap_i64, IntWalk.i64_quo, IntWalk.rem_in, List.set_cons_zero, List.set_cons_succ, List.nil_append, List.take_length, List.take_nil, List.take_zero, decide_eq_true_eq, Option.getD_some, Option.map_some, Option.map_none, Option.bind_some, List.getElem?_cons_zero, List.getElem?_cons_succ, List.map_cons, List.map_nil, List.length_cons, List.length_nil, Nat.zero_add, ↓reduceIte, Nat.reduceEqDiff, Nat.reduceLT, ne_eq, Int.reduceEq, not_false_eq_true, Option.bind_some, if_false_right, if_true_right, and_true, true_and, Bool.false_eq_true, Bool.true_eq_false, frz_i, frz_b, frz_s, frz_nils, frz_arr, frz_tup, frzC_i, frzC_b, frzC_s, frzC_nils, frzC_arr, fi98x0, fi98x1, sz22, sz4, derefA, ld22, ld4, sto4, hrow, hc', take_set, hln, hnf, e1, hz, sh9, hst, hy', sto22 hone]
  exact ⟨by decide, rfl⟩
end Go.Am.R1
