/- The law CostBytes, over the machine. -/
import Derived.Test.YtijdfdkngbpodaaK10
import Derived.Test.YtijdfdkngbpodaaK4
namespace Go.Am.R1
open Go.Proofs
set_option maxRecDepth 100000
set_option linter.unusedSimpArgs false
set_option linter.unusedVariables false
theorem law3 (l : List Int) (hl : ∀ x ∈ l, 0 ≤ x ∧ x ≤ 255) (hn : l.length ≤ 140737488355328) (n c : Int) {x : V} (hx : View [] x (ints .u8 l)) :
    runF cfg 3 [x, .i .i64 n, .i .i64 c] [] [] = some (.b true, []) := by
  refine run_done rfl rfl Try.func3 rfl ?_
  obtain ⟨y, σ', hcp, hy, hx'⟩ : ∃ y σ', runF cfg 19 [x] [] [1] = some (y, σ') ∧ View σ' y (ints .u8 l) ∧ View σ' x (ints .u8 l) := by
    by_cases h0 : l = []
    · subst h0
      exact ⟨_, _, copy_nil hx, View.ints [] .u8 [] true, hx⟩
    · refine ⟨_, _, copy_ok l h0 hn hx, view_new (by rw [ints_len]) (by intro c h; cases h), hx.app _⟩
  obtain ⟨a, b, hab⟩ : ∃ a b, bytesI l c = [.i .i64 a, .i .i64 b] := by
    unfold bytesI; split <;> exact ⟨_, _, rfl⟩
  obtain ⟨d, e, hde⟩ : ∃ d e, mostI n c = [.i .i64 d, .i .i64 e] := by
    unfold mostI; split
    · exact ⟨_, _, rfl⟩
    · split <;> exact ⟨_, _, rfl⟩
  have r1 := fun p => bytes_ok (p := p) l hl (by omega) c hy
  have r2 := fun p => rbytes_ok (p := p) l hn c hx'
  have r3 := fun p => most_ok (σ := σ') (p := p) n c
  have r4 := fun p => rmost_ok (σ := σ') (p := p) n c
  have r5 := fun p => same_ok (p := p) l hy hx'
  rw [hab] at r1 r2
  rw [hde] at r3 r4
  simp (disch := first | omega | exact rfl | decide | exact one_b | exact one_i | exact one_sl | exact one_s | exact one_arr | exact one_ptr) only [Try.f3, Wp_seq, Wp_region, Wp_cond, Wp_skip, Wp_ret, Wp_exit, Wp_label, Wp_block, Wp_scope, thenQ_normal, thenQ_exit, thenQ_ret, blockQ_normal, blockQ_exit, blockQ_ret, upQ_normal, upQ_exit, upQ_ret, downQ_normal, downQ_exit, downQ_ret, Ops_cons, Ops_nil, Step_op, Step_call, Step_guard, SOp, SCall_fn, OptQ_some, OptQ_none, OptQ_map, OptQ_bind, OptQ_ite, Br_b, DoneQ_normal, DoneQ_ret, isV, opA, guard_of, grdO, grd, List.getElem?_toArray, beq_false, beq_true, decide_true, decide_false, not_true_eq_false, not_false_eq_true, false_implies, true_implies, imp_self, implies_true, or_true, true_or, or_false, false_or, false_and, and_false, or_self, beq_self_eq_true, Bool.and_true, Bool.true_and, Bool.and_false, Bool.false_and, Bool.or_true, Bool.true_or, Bool.or_false, Bool.false_or, Bool.not_eq_false, gt_iff_lt, ge_iff_le, Int.reduceLT, Int.reduceLE, Int.reduceToNat, Int.toNat_natCast, Nat.mul_one, Nat.add_zero, List.getElem?_drop, ints_get', bools_get', Option.isSome_none, Option.isSome_some, Option.isNone_none, Option.isNone_some, Bool.not_eq_true', decide_eq_false_iff_not, Bool.not_true, Bool.not_false, put_mk, put_mk0, ev_tmp, ev_const, ev_func, T.get_set, T_ofList, ofVal_int, ofVal_bool, ofVal_string, ofVal_nils, ofVal_nilp, ofVal_nilm, binA_lss, binA_leq, binA_gtr, binA_geq, binA_eql, binA_neq, binA_sub, binA_add, binA_mul, binA_quo, binA_rem, binA_or, binA_and, binA_xor, binA_seql, binA_sneq, unA_not, toVal_b, toVal_i, builtinP, builtinA, changes, fieldAddrA, resA, tupled, rowAt_app0, foldA_min, foldA_max, rowAt_app, set_app0', rep_bools, rep_ints, set_bools, set_ints, List.length_set, List.length_replicate, Option.bind_none, rowAt_app, rowAt_cons0, take_app, ints_len, bools_len, wrap_i64, IntWalk.i64_quo, IntWalk.rem_in, List.set_cons_zero, List.set_cons_succ, List.nil_append, List.take_length, List.take_nil, List.take_zero, decide_eq_true_eq, Option.getD_some, Option.map_some, Option.map_none, Option.bind_some, List.getElem?_cons_zero, List.getElem?_cons_succ, List.map_cons, List.map_nil, List.length_cons, List.length_nil, Nat.zero_add, ↓reduceIte, Nat.reduceEqDiff, Nat.reduceLT, ne_eq, Int.reduceEq, not_false_eq_true, Option.bind_some, if_false_right, if_true_right, and_true, true_and, Bool.false_eq_true, Bool.true_eq_false, frz_i, frz_b, frz_s, frz_nils, frz_arr, frz_tup, frzC_i, frzC_b, frzC_s, frzC_nils, frzC_arr, alive19_ok, hcp, r1, r2, r3, r4, r5]
end Go.Am.R1
