/- Texts in bytes: the document's reader. -/
import Derived.Test.YtijdfdkngbpodaaK13
namespace Go.Am.R1
open Go.Proofs
set_option maxRecDepth 100000
set_option linter.unusedSimpArgs false
set_option linter.unusedVariables false
variable {σ : List O} {p : List Nat}
/-- Bytes as a string. -/
def str (l : List Int) : ByteArray := ⟨(l.map fun n => UInt8.ofNat n.toNat).toArray⟩
/-- A text whose length stands in so many bytes at a place: its length; None: it isn't there. -/
def textN (l : List Int) (a w : Nat) : Option Nat :=
  if a + w ≤ l.length then let n := le ((l.take (a + w)).drop a); if a + w + n ≤ l.length then some n else none else none
theorem takeI_in {l : List Int} {a w : Nat} (hw : 1 ≤ w) (hw2 : w ≤ 2) (hl : ∀ x ∈ l, 0 ≤ x ∧ x ≤ 255) (h : a + w ≤ l.length) : takeI l a w = [.i .i64 (le ((l.take (a + w)).drop a) : Nat), .i .i64 0] := by
  have hlt := le_lt ((l.take (a + w)).drop a) fun x h => hl x (List.mem_of_mem_take (List.mem_of_mem_drop h))
  have hwl : ((l.take (a + w)).drop a).length = w := by rw [List.length_drop, List.length_take]; omega
  rw [hwl] at hlt
  have h64 : (256 : Nat) ^ w ≤ 256 ^ 2 := Nat.pow_le_pow_right (by decide) hw2
  unfold takeI
  rw [if_neg (by omega), if_neg (by omega), Int.toNat_natCast, Int.toNat_natCast, if_neg (by omega)]
theorem takeI_out {l : List Int} {a w : Nat} (hw : 1 ≤ w) (hw2 : w ≤ 2) (h : l.length < a + w) : takeI l a w = [.i .i64 0, .i .i64 1] := by
  unfold takeI
  rw [if_neg (by omega), if_pos (by omega)]
theorem rtext_ok (l : List Int) (hl : ∀ x ∈ l, 0 ≤ x ∧ x ≤ 255) (hn : l.length ≤ 140737488355328) (a w : Nat) (ha : a ≤ l.length) (hw : 1 ≤ w) (hw2 : w ≤ 2) {x : V} (hx : View σ x (ints .u8 l)) :
    runF cfg 73 [x, .i .i64 a, .i .i64 w] σ p = some (.tup (match textN l a w with | some n => [.s (str ((l.take (a + w + n)).drop (a + w))), .i .i64 ((a + w + n : Nat) : Int)] | none => [.s .empty, .i .i64 (-1)]), σ) := by
  refine run_done rfl rfl Try.func73 rfl ?_
  have hln := hx.len sh22
  rw [ints_len] at hln
  have h1 : ¬ (a : Int) < 0 := by omega
  have h2 : ¬ (l.length : Int) < a := by omega
  have hc := fun q => rtake_ok (p := q) l hl hn a w (by omega) hx
  by_cases hin : a + w ≤ l.length
  · rw [takeI_in hw hw2 hl hin] at hc
    obtain ⟨n, hn'⟩ : ∃ n, n = le ((l.take (a + w)).drop a) := ⟨_, rfl⟩
    rw [← hn'] at hc
    have hsub : (l.length : Int) - a - w = ((l.length - a - w : Nat) : Int) := by omega
    by_cases hfit : a + w + n ≤ l.length
    · have ht : textN l a w = some n := by unfold textN; rw [if_pos hin, ← hn']; simp [hfit]
      have hnf : ¬ ((l.length : Int) - a - w < n) := by omega
      have e1 : (a : Int) + w = ((a + w : Nat) : Int) := by omega
      have e2 : ((a + w : Nat) : Int) + n = ((a + w + n : Nat) : Int) := by omega
      obtain ⟨y, hy, hv⟩ := hx.part sh22 sz5 .i64 .i64 (a + w) (a + w + n) (by omega) (by rw [ints_len]; exact hfit)
      have hvy := hv σ _ hx
      rw [ints_take, ints_drop] at hvy
      have hst := hvy.str sh22 sh5 sh9
      rw [ht]
      simp (disch := first | omega | exact rfl | decide | exact one_b | exact one_i | exact one_sl | exact one_s | exact one_arr | exact one_ptr) only [Try.f73, Wp_seq, Wp_region, Wp_cond, Wp_skip, Wp_ret, Wp_exit, Wp_label, Wp_block, Wp_scope, thenQ_normal, thenQ_exit, thenQ_ret, blockQ_normal, blockQ_exit, blockQ_ret, upQ_normal, upQ_exit, upQ_ret, downQ_normal, downQ_exit, downQ_ret, Ops_cons, Ops_nil, Step_op, Step_call, Step_guard, SOp, SCall_fn, OptQ_some, OptQ_none, OptQ_map, OptQ_bind, OptQ_ite, Br_b, DoneQ_normal, DoneQ_ret, isV, opA, guard_of, grdO, grd, List.getElem?_toArray, beq_false, beq_true, decide_true, decide_false, not_true_eq_false, not_false_eq_true, false_implies, true_implies, imp_self, implies_true, or_true, true_or, or_false, false_or, false_and, and_false, or_self, beq_self_eq_true, Bool.and_true, Bool.true_and, Bool.and_false, Bool.false_and, Bool.or_true, Bool.true_or, Bool.or_false, Bool.false_or, Bool.not_eq_false, gt_iff_lt, ge_iff_le, Int.reduceLT, Int.reduceLE, Int.reduceToNat, Int.toNat_natCast, Nat.mul_one, Nat.add_zero, List.getElem?_drop, ints_get', bools_get', Option.isSome_none, Option.isSome_some, Option.isNone_none, Option.isNone_some, Bool.not_eq_true', decide_eq_false_iff_not, Bool.not_true, Bool.not_false, put_mk, put_mk0, ev_tmp, ev_const, ev_func, T.get_set, T_ofList, ofVal_int, ofVal_bool, ofVal_string, ofVal_nils, ofVal_nilp, ofVal_nilm, binA_lss, binA_leq, binA_gtr, binA_geq, binA_eql, binA_neq, binA_sub, binA_add, binA_mul, binA_quo, binA_rem, binA_or, binA_and, binA_xor, binA_seql, binA_sneq, unA_not, toVal_b, toVal_i, builtinP, builtinA, changes, fieldAddrA, resA, tupled, rowAt_app0, foldA_min, foldA_max, rowAt_app, set_app0', rep_bools, rep_ints, set_bools, set_ints, List.length_set, List.length_replicate, Option.bind_none, rowAt_app, rowAt_cons0, take_app, ints_len, bools_len, wrap_i64, IntWalk.i64_quo, IntWalk.rem_in, List.set_cons_zero, List.set_cons_succ, List.nil_append, List.take_length, List.take_nil, List.take_zero, decide_eq_true_eq, Option.getD_some, Option.map_some, Option.map_none, Option.bind_some, List.getElem?_cons_zero, List.getElem?_cons_succ, List.map_cons, List.map_nil, List.length_cons, List.length_nil, Nat.zero_add, ↓reduceIte, Nat.reduceEqDiff, Nat.reduceLT, ne_eq, Int.reduceEq, not_false_eq_true, Option.bind_some, if_false_right, if_true_right, and_true, true_and, Bool.false_eq_true, Bool.true_eq_false, frz_i, frz_b, frz_s, frz_nils, frz_arr, frz_tup, frzC_i, frzC_b, frzC_s, frzC_nils, frzC_arr, h1, h2, hc, hln, hnf, e1, e2, hy, sh9, hst, str]
    · have ht : textN l a w = none := by unfold textN; rw [if_pos hin, ← hn']; simp [hfit]
      have hnf : ((l.length : Int) - a - w < n) := by omega
      rw [ht]
      simp (disch := first | omega | exact rfl | decide | exact one_b | exact one_i | exact one_sl | exact one_s | exact one_arr | exact one_ptr) only [Try.f73, Wp_seq, Wp_region, Wp_cond, Wp_skip, Wp_ret, Wp_exit, Wp_label, Wp_block, Wp_scope, thenQ_normal, thenQ_exit, thenQ_ret, blockQ_normal, blockQ_exit, blockQ_ret, upQ_normal, upQ_exit, upQ_ret, downQ_normal, downQ_exit, downQ_ret, Ops_cons, Ops_nil, Step_op, Step_call, Step_guard, SOp, SCall_fn, OptQ_some, OptQ_none, OptQ_map, OptQ_bind, OptQ_ite, Br_b, DoneQ_normal, DoneQ_ret, isV, opA, guard_of, grdO, grd, List.getElem?_toArray, beq_false, beq_true, decide_true, decide_false, not_true_eq_false, not_false_eq_true, false_implies, true_implies, imp_self, implies_true, or_true, true_or, or_false, false_or, false_and, and_false, or_self, beq_self_eq_true, Bool.and_true, Bool.true_and, Bool.and_false, Bool.false_and, Bool.or_true, Bool.true_or, Bool.or_false, Bool.false_or, Bool.not_eq_false, gt_iff_lt, ge_iff_le, Int.reduceLT, Int.reduceLE, Int.reduceToNat, Int.toNat_natCast, Nat.mul_one, Nat.add_zero, List.getElem?_drop, ints_get', bools_get', Option.isSome_none, Option.isSome_some, Option.isNone_none, Option.isNone_some, Bool.not_eq_true', decide_eq_false_iff_not, Bool.not_true, Bool.not_false, put_mk, put_mk0, ev_tmp, ev_const, ev_func, T.get_set, T_ofList, ofVal_int, ofVal_bool, ofVal_string, ofVal_nils, ofVal_nilp, ofVal_nilm, binA_lss, binA_leq, binA_gtr, binA_geq, binA_eql, binA_neq, binA_sub, binA_add, binA_mul, binA_quo, binA_rem, binA_or, binA_and, binA_xor, binA_seql, binA_sneq, unA_not, toVal_b, toVal_i, builtinP, builtinA, changes, fieldAddrA, resA, tupled, rowAt_app0, foldA_min, foldA_max, rowAt_app, set_app0', rep_bools, rep_ints, set_bools, set_ints, List.length_set, List.length_replicate, Option.bind_none, rowAt_app, rowAt_cons0, take_app, ints_len, bools_len, wrap_i64, IntWalk.i64_quo, IntWalk.rem_in, List.set_cons_zero, List.set_cons_succ, List.nil_append, List.take_length, List.take_nil, List.take_zero, decide_eq_true_eq, Option.getD_some, Option.map_some, Option.map_none, Option.bind_some, List.getElem?_cons_zero, List.getElem?_cons_succ, List.map_cons, List.map_nil, List.length_cons, List.length_nil, Nat.zero_add, ↓reduceIte, Nat.reduceEqDiff, Nat.reduceLT, ne_eq, Int.reduceEq, not_false_eq_true, Option.bind_some, if_false_right, if_true_right, and_true, true_and, Bool.false_eq_true, Bool.true_eq_false, frz_i, frz_b, frz_s, frz_nils, frz_arr, frz_tup, frzC_i, frzC_b, frzC_s, frzC_nils, frzC_arr, h1, h2, hc, hln, hnf]
      rfl
  · rw [takeI_out hw hw2 (by omega)] at hc
    have ht : textN l a w = none := by unfold textN; rw [if_neg hin]
    rw [ht]
    simp (disch := first | omega | exact rfl | decide | exact one_b | exact one_i | exact one_sl | exact one_s | exact one_arr | exact one_ptr) only [Try.f73, Wp_seq, Wp_region, Wp_cond, Wp_skip, Wp_ret, Wp_exit, Wp_label, Wp_block, Wp_scope, thenQ_normal, thenQ_exit, thenQ_ret, blockQ_normal, blockQ_exit, blockQ_ret, upQ_normal, upQ_exit, upQ_ret, downQ_normal, downQ_exit, downQ_ret, Ops_cons, Ops_nil, Step_op, Step_call, Step_guard, SOp, SCall_fn, OptQ_some, OptQ_none, OptQ_map, OptQ_bind, OptQ_ite, Br_b, DoneQ_normal, DoneQ_ret, isV, opA, guard_of, grdO, grd, List.getElem?_toArray, beq_false, beq_true, decide_true, decide_false, not_true_eq_false, not_false_eq_true, false_implies, true_implies, imp_self, implies_true, or_true, true_or, or_false, false_or, false_and, and_false, or_self, beq_self_eq_true, Bool.and_true, Bool.true_and, Bool.and_false, Bool.false_and, Bool.or_true, Bool.true_or, Bool.or_false, Bool.false_or, Bool.not_eq_false, gt_iff_lt, ge_iff_le, Int.reduceLT, Int.reduceLE, Int.reduceToNat, Int.toNat_natCast, Nat.mul_one, Nat.add_zero, List.getElem?_drop, ints_get', bools_get', Option.isSome_none, Option.isSome_some, Option.isNone_none, Option.isNone_some, Bool.not_eq_true', decide_eq_false_iff_not, Bool.not_true, Bool.not_false, put_mk, put_mk0, ev_tmp, ev_const, ev_func, T.get_set, T_ofList, ofVal_int, ofVal_bool, ofVal_string, ofVal_nils, ofVal_nilp, ofVal_nilm, binA_lss, binA_leq, binA_gtr, binA_geq, binA_eql, binA_neq, binA_sub, binA_add, binA_mul, binA_quo, binA_rem, binA_or, binA_and, binA_xor, binA_seql, binA_sneq, unA_not, toVal_b, toVal_i, builtinP, builtinA, changes, fieldAddrA, resA, tupled, rowAt_app0, foldA_min, foldA_max, rowAt_app, set_app0', rep_bools, rep_ints, set_bools, set_ints, List.length_set, List.length_replicate, Option.bind_none, rowAt_app, rowAt_cons0, take_app, ints_len, bools_len, wrap_i64, IntWalk.i64_quo, IntWalk.rem_in, List.set_cons_zero, List.set_cons_succ, List.nil_append, List.take_length, List.take_nil, List.take_zero, decide_eq_true_eq, Option.getD_some, Option.map_some, Option.map_none, Option.bind_some, List.getElem?_cons_zero, List.getElem?_cons_succ, List.map_cons, List.map_nil, List.length_cons, List.length_nil, Nat.zero_add, ↓reduceIte, Nat.reduceEqDiff, Nat.reduceLT, ne_eq, Int.reduceEq, not_false_eq_true, Option.bind_some, if_false_right, if_true_right, and_true, true_and, Bool.false_eq_true, Bool.true_eq_false, frz_i, frz_b, frz_s, frz_nils, frz_arr, frz_tup, frzC_i, frzC_b, frzC_s, frzC_nils, frzC_arr, h1, h2, hc, hln]
    rfl
end Go.Am.R1
